/- Contract of bodegalaw13.of: what it returns is a job.
Conditions: none. -/
import Derived.Test.YtifgpgahbbbkpaaGreatCRc
namespace Go.Proofs.YtifgpgahbbbkpaaGreat
set_option linter.unusedSimpArgs false
set_option linter.unusedSectionVars false
open Go Go.Ax
set_option linter.unusedVariables false
set_option maxRecDepth 100000

/-- A job lies in a block; its members lie elsewhere. -/
def JobAt (b lo : Nat) (s : HS) : Prop := ∃ (c i l nb : Int) (v : SV) (d dr : Int) (p : Nat) (ms : List Mem), p < 18446744073709551616 ∧ s.h.get b = some (bx 1 true false (jobC c i l nb v d dr (p : Int))) ∧
  ms.length ≤ 5 ∧ HoldA (fun b' => lo ≤ b' ∧ b' ≠ b) s v 3 (ms.flatMap memC)
theorem JobAt.grow {b lo : Nat} {s t : HS} (h : JobAt b lo s) (g : Grow s t) (hb : b < s.c) : JobAt b lo t := by
  obtain ⟨c, i, l, nb, v, d, dr, p, ms, h1, h2, h3, h4⟩ := h
  exact ⟨c, i, l, nb, v, d, dr, p, ms, h1, by rw [g.keep b hb]; exact h2, h3, h4.grow g⟩

theorem r13 (lf : Nat) (hlf : 2000 ≤ lf) (a0 a1 a2 a3 a4 a5 a6 a7 a8 a9 : Int) (k : Nat) (hk : 1 ≤ k) (hk5 : k ≤ 5) (s : HS) :
    R13 lf 4 13 [.agg ⟨[vI a0, vI a1, vI a2, vI a3, vI a4, vI a5, vI a6, vI a7, vI a8, vI a9]⟩, vI (k : Int)] (.v shJ) s fun x s' =>
      (∃ ms : List Mem, ms.length ≤ 5 ∧ HoldA (s.c ≤ ·) s' x.2.2.2.2.1 3 (ms.flatMap memC)) ∧ (∃ p : Nat, p < 18446744073709551616 ∧ x.2.2.2.2.2.2.2.1 = (p : Int)) ∧ Grow s s' := by
  refine Runs.of (fun call => d13 call lf a0 a1 a2 a3 a4 a5 a6 a7 a8 a9 (k : Int)) (show env13.fn.get 13 = some Tryz.f13 by kernel_rfl) rfl (fun call => d13_eq call lf a0 a1 a2 a3 a4 a5 a6 a7 a8 a9 (k : Int)) fun n hn => ?_
  refine WP.new (WP.new ?_)
  generalize hB0 : bx 1 true false [vI a0, vI a1, vI a2, vI a3, vI a4, vI a5, vI a6, vI a7, vI a8, vI a9] = B0
  have hc1 : (push s B0).c = s.c + 1 := rfl
  rw [hc1]
  generalize hs0 : push (push s B0) _ = s0
  have g0 : Grow s s0 := hs0 ▸ ((Grow.push s _).then_push _)
  have hc0 : s0.c = s.c + 2 := by rw [← hs0]; rfl
  have b0 : ∀ {t}, Grow s0 t → t.h.get s.c = some (bx 1 true false [vI a0, vI a1, vI a2, vI a3, vI a4, vI a5, vI a6, vI a7, vI a8, vI a9]) := fun {t} g => by
    rw [g.keep _ (by omega), ← hs0, push_get, if_neg (by rw [hc1]; omega), push_at, ← hB0]
  have b1 : ∀ {t}, Grow s0 t → t.h.get (s.c + 1) = some (bx 1 true false [vI 0, vI 0, vI 0, vI 0, .slice none 0 0, vI 0, vI 0, vU 0]) := fun {t} g => by
    rw [g.keep _ (by omega), ← hs0, push_get, if_pos hc1.symm]
  have rg := Grow.refl s0
  have hclr : ∀ (m off : Nat) (recs : Recs), (∀ r ∈ recs, s0.c ≤ r.2.1 ∧ ∀ x ∈ r.2.2, s0.c ≤ x) → clrP m (some ⟨s.c, off, none⟩) recs = true := fun m off recs hr => clrP_ok _ fun r hmem => .inr fun a ha => by
    injection ha with ha
    obtain ⟨h1, h2⟩ := hr r hmem
    rw [← ha]
    refine ⟨by show s.c < _; omega, fun hm => ?_⟩
    have : s0.c ≤ s.c := h2 _ hm
    omega
  have hself : ∀ t : HS, addLog (noLog t) t = t := fun t => rfl
  have nolog : ∀ {t : HS} {i : Nat}, s0.c ≤ t.c → s0.c ≤ (i, ((noLog t).c, (noLog t).log)).2.1 ∧ ∀ x ∈ (i, ((noLog t).c, (noLog t).log)).2.2, s0.c ≤ x := fun h => ⟨h, fun x hx => absurd hx List.not_mem_nil⟩
  refine WP.field (sh := sI) (x := a0) (b0 rg) (Nat.le_of_ble_eq_true rfl) rfl fun _ => ?_
  refine WP.callW (r18 lf a0 6 (noLog s0) (by omega)) (by omega) fun (x5 : Int) s1 ⟨e, _, _⟩ => ?_
  rw [e, hself]
  refine WP.fld (WP.cond (fun _ => ?_) (fun h => Bool.noConfusion ((hclr 8 1 [(2, ((noLog s0).c, (noLog s0).log))] (fun r hr => by rw [List.mem_singleton] at hr; subst hr; exact nolog (Nat.le_refl _))).symm.trans h)))
  refine WP.ld (sh := sI) (x := a1) (b0 rg) (Nat.le_of_ble_eq_true rfl) rfl ?_
  refine WP.callW (r18 lf a1 4 (noLog s0) (by omega)) (by omega) fun (x10 : Int) s1 ⟨e, _, _⟩ => ?_
  rw [e, hself]
  refine WP.fld (WP.cond (fun _ => ?_) (fun h => Bool.noConfusion ((hclr 256 2 [(5, ((noLog s0).c, (noLog s0).log)), (2, ((noLog s0).c, (noLog s0).log))] (fun r hr => by
    rcases List.mem_cons.1 hr with rfl | hr
    · exact nolog (Nat.le_refl _)
    · rw [List.mem_singleton] at hr; subst hr; exact nolog (Nat.le_refl _))).symm.trans h)))
  refine WP.ld (sh := sI) (x := a2) (b0 rg) (Nat.le_of_ble_eq_true rfl) rfl ?_
  refine WP.callW (r20 lf a2 (noLog s0)) (by omega) fun (x15 : Int) s1 ⟨e, _⟩ => ?_
  rw [e, hself]
  refine WP.callW (r43 lf hlf k hk hk5 (noLog s0)) (by omega) fun x s1 ⟨h1, h2, g1⟩ => ?_
  obtain ⟨g01, seg1⟩ := g1.wrap
  have h2' := h2.addLog (s := s0)
  have hadd : (addLog s1 s0).log = appL s1.log s0.log := rfl
  generalize hs1 : addLog s1 s0 = s1' at g01 h2'
  obtain ⟨x1, v0, _⟩ := x
  simp only at h1 h2'
  subst h1
  have gc1 := g01.c
  refine WP.fld (WP.cond (fun _ => ?_) (fun h => Bool.noConfusion ((hclr 8192 4 [(12, (s0.c, s1.log)), (10, ((noLog s0).c, (noLog s0).log)), (5, ((noLog s0).c, (noLog s0).log)), (2, ((noLog s0).c, (noLog s0).log))] (fun r hr => by
    rcases List.mem_cons.1 hr with rfl | hr
    · exact ⟨Nat.le_refl _, seg1⟩
    rcases List.mem_cons.1 hr with rfl | hr
    · exact nolog (Nat.le_refl _)
    rcases List.mem_cons.1 hr with rfl | hr
    · exact nolog (Nat.le_refl _)
    · rw [List.mem_singleton] at hr; subst hr; exact nolog (Nat.le_refl _))).symm.trans h)))
  refine WP.ld (sh := sI) (x := a4) (b0 g01) (Nat.le_of_ble_eq_true rfl) rfl ?_
  refine WP.callW (r18 lf a4 6 (noLog s1') (by omega)) (by omega) fun (x23 : Int) s2 ⟨e, _, _⟩ => ?_
  rw [e, hself]
  refine WP.newW ?_
  refine WP.stW (push_at _ _) rfl (Nat.le_of_ble_eq_true rfl) ?_
  generalize hs2 : upd (push s1' _) s1'.c _ = s2'
  have g12 : Grow s1' s2' := hs2 ▸ (Grow.push _ _).upd (Nat.le_refl _) _
  have c2 : s2'.c = s1'.c + 1 := by rw [← hs2]; rfl
  have j2 : JobAt s1'.c (s.c + 2) s2' := ⟨_, _, _, _, v0, _, _, 0, mems0 k, by omega, by rw [← hs2, upd_get, if_pos rfl]; rfl, by rw [mems0_len]; omega,
    ((h2'.mono (B := fun b' => s.c + 2 ≤ b' ∧ b' ≠ s1'.c) fun b hb hA => ⟨by have hA : s0.c ≤ b := hA; omega, by omega⟩).grow g12)⟩
  have g02 := g01.trans g12
  clear hs2 h2' h2 g1 hs1 hadd
  -- the view
  refine WP.bind (R := fun _ s' => Grow s0 s' ∧ s1'.c + 1 ≤ s'.c ∧ JobAt s1'.c (s.c + 2) s') ?_ ?_
  · refine WP.field (sh := sI) (x := a3) (b0 g02) (Nat.le_of_ble_eq_true rfl) rfl fun _ => ?_
    refine WP.call (r18 lf a3 3 s2' (by omega)) (by omega) fun (y : Int) s3 ⟨e, _, _⟩ => ?_
    rw [e]
    refine WP.cond (fun hb => ?_) (fun hb => WP.ret ⟨g02, by omega, j2⟩)
    refine WP.field (sh := sI) (x := a3) (b0 g02) (Nat.le_of_ble_eq_true rfl) rfl fun _ => ?_
    refine WP.call (r46 lf hlf a3 k hk5 s2') (by omega) fun x s3 ⟨h3, ⟨ms, m1, m5, h4⟩, g3⟩ => ?_
    obtain ⟨x1, v, _⟩ := x
    simp only at h3 h4
    subst h3
    obtain ⟨c, i, l, nb, v1, d, dr, p, ms1, q1, q2, q3, q4⟩ := j2
    refine WP.fld (WP.st (b := s1'.c) (off := 3) (es := 1) (ti := true) (L := jobC c i l nb v1 d dr (p : Int)) (by rw [g3.keep _ (by omega)]; exact q2) rfl (Nat.le_of_ble_eq_true rfl) (WP.ret ?_))
    refine ⟨(g02.trans g3).upd (by omega) _, by rw [upd_c]; have := g3.c; omega, c, i, l, 0, v, d, dr, p, ms, q1, by rw [upd_get, if_pos rfl]; rfl, m5, ?_⟩
    exact (h4.mono (B := fun b' => s.c + 2 ≤ b' ∧ b' ≠ s1'.c) fun b hb hA => ⟨by omega, by omega⟩).upd (fun h => h.2 rfl) _
  rintro _ s3 ⟨g3, c3, j3⟩
  -- a field of the job is set
  have setI : ∀ {t : HS} {Q : Unit → HS → Prop} (j : Nat) (val : Int), Grow s0 t → s1'.c + 1 ≤ t.c → JobAt s1'.c (s.c + 2) t → (j = 0 ∨ j = 1 ∨ j = 2 ∨ j = 5 ∨ j = 6) →
      (∀ t', Grow s0 t' → s1'.c + 1 ≤ t'.c → JobAt s1'.c (s.c + 2) t' → Q () t') → WP (Tr.op (fldM j (bA s1'.c)) fun q => Tr.op (stM [vI val] (some q)) fun _ => Tr.ret ()) t Q := by
    intro t Q j val g hc hj hjj hQ
    obtain ⟨c, i, l, nb, v1, d, dr, p, ms1, q1, q2, q3, q4⟩ := hj
    rcases hjj with rfl | rfl | rfl | rfl | rfl
    · refine WP.fld (WP.st (b := s1'.c) (off := 0) q2 rfl (Nat.le_of_ble_eq_true rfl) (WP.ret (hQ _ (g.upd (by omega) _) hc ?_)))
      exact ⟨val, i, l, nb, v1, d, dr, p, ms1, q1, by rw [upd_get, if_pos rfl]; rfl, q3, q4.upd (fun h => h.2 rfl) _⟩
    · refine WP.fld (WP.st (b := s1'.c) (off := 1) q2 rfl (Nat.le_of_ble_eq_true rfl) (WP.ret (hQ _ (g.upd (by omega) _) hc ?_)))
      exact ⟨c, val, l, nb, v1, d, dr, p, ms1, q1, by rw [upd_get, if_pos rfl]; rfl, q3, q4.upd (fun h => h.2 rfl) _⟩
    · refine WP.fld (WP.st (b := s1'.c) (off := 2) q2 rfl (Nat.le_of_ble_eq_true rfl) (WP.ret (hQ _ (g.upd (by omega) _) hc ?_)))
      exact ⟨c, i, val, nb, v1, d, dr, p, ms1, q1, by rw [upd_get, if_pos rfl]; rfl, q3, q4.upd (fun h => h.2 rfl) _⟩
    · refine WP.fld (WP.st (b := s1'.c) (off := 5) q2 rfl (Nat.le_of_ble_eq_true rfl) (WP.ret (hQ _ (g.upd (by omega) _) hc ?_)))
      exact ⟨c, i, l, nb, v1, val, dr, p, ms1, q1, by rw [upd_get, if_pos rfl]; rfl, q3, q4.upd (fun h => h.2 rfl) _⟩
    · refine WP.fld (WP.st (b := s1'.c) (off := 6) q2 rfl (Nat.le_of_ble_eq_true rfl) (WP.ret (hQ _ (g.upd (by omega) _) hc ?_)))
      exact ⟨c, i, l, nb, v1, d, val, p, ms1, q1, by rw [upd_get, if_pos rfl]; rfl, q3, q4.upd (fun h => h.2 rfl) _⟩
  refine WP.field (sh := sI) (x := a5) (b0 g3) (Nat.le_of_ble_eq_true rfl) rfl fun _ => ?_
  refine WP.call (r18 lf a5 4 s3 (by omega)) (by omega) fun (x42 : Int) s3' ⟨e, _, _⟩ => ?_
  rw [e]
  obtain ⟨c, i, l, nb, v1, d, dr, p, ms1, q1, q2, q3, q4⟩ := j3
  refine WP.fld (WP.st (b := s1'.c) (off := 6) q2 rfl (Nat.le_of_ble_eq_true rfl) ?_)
  generalize hs4 : upd s3 _ _ = s4
  have g4 : Grow s0 s4 := hs4 ▸ g3.upd (by show s0.c ≤ s1'.c; omega) _
  have c4 : s1'.c + 1 ≤ s4.c := by rw [← hs4]; exact c3
  have j4 : JobAt s1'.c (s.c + 2) s4 := ⟨c, i, l, nb, v1, d, _, p, ms1, q1, by rw [← hs4, upd_get, if_pos rfl]; rfl, q3, hs4 ▸ q4.upd (fun h => h.2 rfl) _⟩
  clear hs4 q2 q4
  refine WP.bind (R := fun _ s' => Grow s0 s' ∧ s1'.c + 1 ≤ s'.c ∧ JobAt s1'.c (s.c + 2) s') ?_ ?_
  · have j4' := j4
    obtain ⟨c, i, l, nb, v1, d, dr, p, ms1, q1, q2, q3, q4⟩ := j4'
    refine WP.field (sh := sI) (x := d) q2 (Nat.le_of_ble_eq_true rfl) rfl fun _ => ?_
    refine WP.field (sh := sI) (x := c) q2 (Nat.le_of_ble_eq_true rfl) rfl fun _ => ?_
    refine WP.cond (fun hb => ?_) (fun hb => WP.ret ⟨g4, c4, j4⟩)
    refine WP.field (sh := sI) (x := i) q2 (Nat.le_of_ble_eq_true rfl) rfl fun _ => ?_
    exact setI 6 i g4 c4 j4 (by omega) fun t h1 h2 h3 => ⟨h1, h2, h3⟩
  rintro _ s5 ⟨g5, c5, j5⟩
  -- the expected tag
  refine WP.bind (R := fun _ s' => Grow s0 s' ∧ s1'.c + 1 ≤ s'.c ∧ JobAt s1'.c (s.c + 2) s') ?_ ?_
  · refine WP.field (sh := sI) (x := a6) (b0 g5) (Nat.le_of_ble_eq_true rfl) rfl fun _ => ?_
    refine WP.call (r18 lf a6 3 s5 (by omega)) (by omega) fun (y : Int) s6 ⟨e, _, _⟩ => ?_
    rw [e]
    refine WP.cond (fun hb => ?_) (fun hb => WP.ret ⟨g5, c5, j5⟩)
    refine WP.field (sh := sI) (x := a6) (b0 g5) (Nat.le_of_ble_eq_true rfl) rfl fun _ => ?_
    refine WP.callW (r18 lf a6 3 (noLog s5) (by omega)) (by omega) fun (x60 : Int) s6 ⟨e, _, _⟩ => ?_
    rw [e, hself]
    refine WP.fld (WP.cond (fun _ => ?_) (fun h => Bool.noConfusion ((hclr 32 7 [(2, ((noLog s5).c, (noLog s5).log))] (fun r hr => by rw [List.mem_singleton] at hr; subst hr; exact nolog (by omega))).symm.trans h)))
    refine WP.ld (sh := sI) (x := a7) (b0 g5) (Nat.le_of_ble_eq_true rfl) rfl ?_
    refine WP.callW (r18 lf a7 6 (noLog s5) (by omega)) (by omega) fun (x65 : Int) s6 ⟨e, _, _⟩ => ?_
    rw [e, hself]
    refine WP.callW (r47 lf _ x65 (noLog s5)) (by omega) fun x s6 ⟨e, hx1, hx2, hx3⟩ => ?_
    rw [e, hself]
    obtain ⟨val, ec, _⟩ := x
    simp only at hx2 hx3
    have hval : ∃ q : Nat, q < 18446744073709551616 ∧ val = (q : Int) := by
      by_cases h0 : tagE (wrapK .i64 (Int.add (wrapK .i64 (Int.mul 2 x60)) 1)) x65 = 0
      · obtain ⟨⟨i1, i2, _⟩, i3, i4⟩ := tagE_zero.1 h0
        have hv := hx2 h0
        generalize wrapK .i64 (Int.add (wrapK .i64 (Int.mul 2 x60)) 1) = inc at i1 i2 hv
        refine ⟨(inc * 256 + (x65 + 1)).toNat, ?_, ?_⟩
        · omega
        · rw [show val = _ from hv]
          exact (Int.toNat_of_nonneg (show 0 ≤ inc * 256 + (x65 + 1) by omega)).symm
      · exact ⟨0, by omega, hx3 h0⟩
    obtain ⟨q, hq, hqv⟩ := hval
    rw [show val = _ from hqv]
    obtain ⟨c, i, l, nb, v1, d, dr, p, ms1, q1, q2, q3, q4⟩ := j5
    refine WP.fld (WP.stW (b := s1'.c) (off := 7) q2 rfl (Nat.le_of_ble_eq_true rfl) (WP.ret ?_))
    exact ⟨g5.upd (by omega) _, c5, c, i, l, nb, v1, d, dr, q, ms1, hq, by rw [upd_get, if_pos rfl]; rfl, q3, q4.upd (fun h => h.2 rfl) _⟩
  rintro _ s6 ⟨g6, c6, j6⟩
  -- the fault
  refine WP.bind (R := fun _ s' => Grow s0 s' ∧ s1'.c + 1 ≤ s'.c ∧ JobAt s1'.c (s.c + 2) s') ?_ ?_
  · refine WP.field (sh := sI) (x := a8) (b0 g6) (Nat.le_of_ble_eq_true rfl) rfl fun _ => ?_
    refine WP.call (r18 lf a8 20 s6 (by omega)) (by omega) fun (y : Int) s7 ⟨e, _, _⟩ => ?_
    rw [e]
    refine WP.cond (fun hb => ?_) (fun hb => WP.cond (fun hb => ?_) (fun hb => WP.cond (fun hb => ?_) (fun hb => WP.cond (fun hb => ?_) (fun hb => WP.cond (fun hb => ?_) (fun hb => WP.cond (fun hb => ?_) (fun hb => WP.ret ⟨g6, c6, j6⟩))))))
    · refine WP.field (sh := sI) (x := a9) (b0 g6) (Nat.le_of_ble_eq_true rfl) rfl fun _ => ?_
      refine WP.call (r18 lf a9 9 s6 (by omega)) (by omega) fun (z : Int) s7 ⟨e, _, _⟩ => ?_
      rw [e]
      exact setI 0 _ g6 c6 j6 (by omega) fun t h1 h2 h3 => ⟨h1, h2, h3⟩
    · refine WP.field (sh := sI) (x := a9) (b0 g6) (Nat.le_of_ble_eq_true rfl) rfl fun _ => ?_
      refine WP.call (r18 lf a9 205 s6 (by omega)) (by omega) fun (z : Int) s7 ⟨e, _, _⟩ => ?_
      rw [e]
      exact setI 1 _ g6 c6 j6 (by omega) fun t h1 h2 h3 => ⟨h1, h2, h3⟩
    · refine WP.field (sh := sI) (x := a9) (b0 g6) (Nat.le_of_ble_eq_true rfl) rfl fun _ => ?_
      refine WP.call (r18 lf a9 9 s6 (by omega)) (by omega) fun (z : Int) s7 ⟨e, _, _⟩ => ?_
      rw [e]
      exact setI 5 _ g6 c6 j6 (by omega) fun t h1 h2 h3 => ⟨h1, h2, h3⟩
    · refine WP.field (sh := sI) (x := a9) (b0 g6) (Nat.le_of_ble_eq_true rfl) rfl fun _ => ?_
      refine WP.call (r18 lf a9 205 s6 (by omega)) (by omega) fun (z : Int) s7 ⟨e, _, _⟩ => ?_
      rw [e]
      exact setI 6 _ g6 c6 j6 (by omega) fun t h1 h2 h3 => ⟨h1, h2, h3⟩
    · refine WP.field (sh := sI) (x := a9) (b0 g6) (Nat.le_of_ble_eq_true rfl) rfl fun _ => ?_
      refine WP.call (r18 lf a9 2000 s6 (by omega)) (by omega) fun (z : Int) s7 ⟨e, hz, _⟩ => ?_
      have hz : z = a9 % 2000 := hz (by omega)
      rw [e]
      obtain ⟨c, i, l, nb, v1, d, dr, p, ms1, q1, q2, q3, q4⟩ := j6
      obtain ⟨q, rfl⟩ := Int.eq_ofNat_of_zero_le (show 0 ≤ z by omega)
      refine WP.fld (WP.st (b := s1'.c) (off := 7) q2 rfl (Nat.le_of_ble_eq_true rfl) (WP.ret ?_))
      rw [wrap_u64n (by omega)]
      exact ⟨g6.upd (by omega) _, c6, c, i, l, nb, v1, d, dr, q, ms1, by omega, by rw [upd_get, if_pos rfl]; rfl, q3, q4.upd (fun h => h.2 rfl) _⟩
    · refine WP.field (sh := sI) (x := a9) (b0 g6) (Nat.le_of_ble_eq_true rfl) rfl fun _ => ?_
      refine WP.call (r18 lf a9 300 s6 (by omega)) (by omega) fun (z : Int) s7 ⟨e, _, _⟩ => ?_
      rw [e]
      exact setI 2 _ g6 c6 j6 (by omega) fun t h1 h2 h3 => ⟨h1, h2, h3⟩
  rintro _ s7 ⟨g7, c7, j7⟩
  obtain ⟨c, i, l, nb, v1, d, dr, p, ms1, q1, q2, q3, q4⟩ := j7
  refine WP.ld (sh := shJ) (x := (c, i, l, nb, v1, d, dr, (p : Int), ())) q2 (Nat.le_of_ble_eq_true rfl) rfl ?_
  refine WP.st (b1 g7) rfl (Nat.le_of_ble_eq_true rfl) ?_
  refine WP.ld (sh := shJ) (x := (c, i, l, nb, v1, d, dr, (p : Int), ())) (es := 1) (ti := true) (ro := false) (L := jobC c i l nb v1 d dr (p : Int)) (by rw [upd_get, if_pos rfl]; rfl) (Nat.le_of_ble_eq_true rfl) rfl ?_
  refine WP.ret ⟨(c, i, l, nb, v1, d, dr, (p : Int), ()), rfl, ⟨ms1, q3, ?_⟩, ⟨p, q1, rfl⟩, (g0.trans g7).upd (by omega) _⟩
  exact (q4.upd (fun h => by have := h.1; omega) _).mono fun b _ h => by have := h.1; show s.c ≤ b; omega
end Go.Proofs.YtifgpgahbbbkpaaGreat

/- RecoveryValid: for all numbers and lists the law answers true.
Conditions: none. -/
namespace Go.Proofs.YtifgpgahbbbkpaaGreat
set_option linter.unusedSimpArgs false
set_option linter.unusedSectionVars false
open Go Go.Ax
set_option linter.unusedVariables false
set_option maxRecDepth 100000

theorem r14 (lf : Nat) (s : HS) : R13 lf 1 14 [] shB s fun x s' => x = true ∧ s' = s := by
  intro n hn
  obtain ⟨m, rfl⟩ : ∃ m, n = m + 1 := ⟨n - 1, by omega⟩
  exact ⟨true, s, rfl, rfl, rfl⟩

theorem r3 (lf : Nat) (hlf : 2000 ≤ lf) (client inc lines number dead door : Int) (prev : Nat) (hp : prev < 18446744073709551616) (a0 a1 a2 a3 a4 a5 a6 a7 a8 a9 : Int) (v : SV) (ms : List Mem) (s : HS) (hv : HoldM s v ms) :
    R13 lf 6 3 [.agg ⟨jobC client inc lines number v dead door (prev : Int)⟩, .agg ⟨[vI a0, vI a1, vI a2, vI a3, vI a4, vI a5, vI a6, vI a7, vI a8, vI a9]⟩] shB s fun x s' => x = true := by
  refine Runs.of (fun call => d3 call lf client inc lines number v dead door (prev : Int) a0 a1 a2 a3 a4 a5 a6 a7 a8 a9) (show env13.fn.get 3 = some Tryz.f3 by kernel_rfl) rfl (fun call => d3_eq call lf client inc lines number v dead door (prev : Int) a0 a1 a2 a3 a4 a5 a6 a7 a8 a9) fun n hn => ?_
  have hvn := HoldM.n hv
  refine WP.new (WP.new ?_)
  generalize hB0 : bx 1 true false [vI client, vI inc, vI lines, vI number, slV v, vI dead, vI door, vU (prev : Int)] = B0
  have hc1 : (push s B0).c = s.c + 1 := rfl
  rw [hc1]
  generalize hs0 : push (push s B0) _ = s0
  have g0 : Grow s s0 := hs0 ▸ ((Grow.push s _).then_push _)
  have hc0 : s0.c = s.c + 2 := by rw [← hs0]; rfl
  have b0 : ∀ {t}, Grow s0 t → t.h.get s.c = some (bx 1 true false (jobC client inc lines number v dead door (prev : Int))) := fun {t} g => by
    rw [g.keep _ (by omega), ← hs0, push_get, if_neg (by rw [hc1]; omega), push_at, ← hB0]
  have b1 : ∀ {t}, Grow s0 t → t.h.get (s.c + 1) = some (bx 1 true false [vI a0, vI a1, vI a2, vI a3, vI a4, vI a5, vI a6, vI a7, vI a8, vI a9]) := fun {t} g => by
    rw [g.keep _ (by omega), ← hs0, push_get, if_pos hc1.symm]
  have rg := Grow.refl s0
  refine WP.fld (WP.fld (WP.ld (sh := sS) (x := v) (b0 rg) (Nat.le_of_ble_eq_true rfl) rfl ?_))
  refine WP.cond (fun _ => WP.ret ⟨true, rfl, rfl⟩) (fun h8 => ?_)
  have l1 : ms.length ≤ 1100 := by have h : (v.n : Int) ≤ 8 := iLt_f h8; omega
  refine WP.ld (sh := .agg [.int .i64, .int .i64, .int .i64, .int .i64, .int .i64, .int .i64, .int .i64, .int .i64, .int .i64, .int .i64]) (x := (a0, a1, a2, a3, a4, a5, a6, a7, a8, a9, ())) (b1 rg) (Nat.le_of_ble_eq_true rfl) rfl ?_
  refine WP.call (r13 lf hlf a0 a1 a2 a3 a4 a5 a6 a7 a8 a9 3 (by omega) (by omega) s0) (by omega) fun x s1 ⟨⟨ms', m5, hv'⟩, ⟨p', hp', hpe⟩, g1⟩ => ?_
  obtain ⟨c', i', l', nb', v', d', dr', pv', _⟩ := x
  simp only at hv' hpe
  subst hpe
  refine WP.newst rfl rfl fun s2 g2 c2 b2 => ?_
  have gc1 := g1.c
  have g02 := g1.trans g2
  have hv2 : HoldM s2 v' ms' := (hv'.grow g2).hold
  have hv02 : HoldM s2 v ms := (hv.grow g0).grow g02
  have hclr : ∀ (m b off : Nat) (recs : Recs), b < s2.c → (∀ r ∈ recs, s2.c ≤ r.2.1 ∧ ∀ x ∈ r.2.2, s2.c ≤ x) → clrP m (some ⟨b, off, none⟩) recs = true := fun m b off recs hb hr => clrP_ok _ fun r hmem => .inr fun a ha => by
    injection ha with ha
    obtain ⟨h1, h2⟩ := hr r hmem
    rw [← ha]
    refine ⟨by show b < _; omega, fun hm => ?_⟩
    have : s2.c ≤ b := h2 _ hm
    omega
  refine WP.callW (r14 lf (noLog s2)) (by omega) fun x s3 ⟨hx, e⟩ => ?_
  rw [e, hx]
  have hnl : addLog (noLog s2) s2 = s2 := rfl
  rw [hnl]
  refine WP.cond (fun _ => ?_) (fun h => by cases h)
  refine WP.ld (sh := shJ) (x := (client, inc, lines, number, v, dead, door, (prev : Int), ())) (b0 g02) (Nat.le_of_ble_eq_true rfl) rfl ?_
  refine WP.callW (r15 lf hlf client inc lines number v ms dead door prev hp (noLog s2) l1 hv02.noLog) (by omega) fun (x1 : Int) s3 ⟨hx1, g3⟩ => ?_
  obtain ⟨g23, seg3⟩ := g3.wrap
  generalize hs3 : addLog s3 s2 = s3' at g23
  have g03 := g02.trans g23
  have gc3 := g23.c
  have rec1 : ∀ r ∈ [(3, (s2.c, s3.log)), (0, (s2.c, (noLog s2).log))], s2.c ≤ r.2.1 ∧ ∀ x ∈ r.2.2, s2.c ≤ x := by
    intro r hr
    rcases List.mem_cons.1 hr with rfl | hr
    · exact ⟨Nat.le_refl _, seg3⟩
    · rw [List.mem_singleton] at hr; subst hr; exact ⟨Nat.le_refl _, fun _ h => absurd h List.not_mem_nil⟩
  refine WP.cond (fun _ => ?_) (fun h => Bool.noConfusion ((hclr 3 s.c 0 _ (by omega) rec1).symm.trans h))
  refine WP.ld (sh := shJ) (x := (client, inc, lines, number, v, dead, door, (prev : Int), ())) (b0 g03) (Nat.le_of_ble_eq_true rfl) rfl ?_
  refine WP.callW (r17 lf client inc lines number v dead door (prev : Int) (noLog s3')) (by omega) fun x s4 ⟨hx2, g4⟩ => ?_
  rw [hx2]
  obtain ⟨g34, seg4⟩ := g4.wrap
  generalize hs4 : addLog s4 s3' = s4' at g34
  have g24 := g23.trans g34
  have gc4 := g34.c
  refine WP.callW (r16 lf hlf client inc lines number v ms dead door prev hp (noLog s4') l1 (hv02.grow g24).noLog) (by omega) fun (x2 : Int) s5 ⟨hx3, g5⟩ => ?_
  obtain ⟨g45, seg5⟩ := g5.wrap
  generalize hs5 : addLog s5 s4' = s5' at g45
  have g25 := g24.trans g45
  have gc5 := g45.c
  refine WP.cond (fun _ => ?_) (fun h => absurd (hx1.trans hx3.symm) (iEq_f h))
  have b25 : s5'.h.get s1.c = some (bx 1 true false (jobC c' i' l' nb' v' d' dr' (p' : Int))) := by rw [g25.keep _ (by omega)]; exact b2
  refine WP.ld (sh := shJ) (x := (c', i', l', nb', v', d', dr', (p' : Int), ())) b25 (Nat.le_of_ble_eq_true rfl) rfl ?_
  refine WP.callW (r15 lf hlf c' i' l' nb' v' ms' d' dr' p' hp' (noLog s5') (by omega) (hv2.grow g25).noLog) (by omega) fun (x3 : Int) s6 ⟨hx4, g6⟩ => ?_
  obtain ⟨g56, seg6⟩ := g6.wrap
  generalize hs6 : addLog s6 s5' = s6' at g56
  have g26 := g25.trans g56
  have gc6 := g56.c
  have rec2 : ∀ r ∈ [(11, (s5'.c, s6.log)), (6, (s4'.c, s5.log)), (5, (s3'.c, s4.log)), (3, (s2.c, s3.log)), (0, (s2.c, (noLog s2).log))], s2.c ≤ r.2.1 ∧ ∀ x ∈ r.2.2, s2.c ≤ x := by
    intro r hr
    rcases List.mem_cons.1 hr with rfl | hr
    · exact ⟨by show s2.c ≤ s5'.c; omega, fun x hx => by have := seg6 x hx; omega⟩
    rcases List.mem_cons.1 hr with rfl | hr
    · exact ⟨by show s2.c ≤ s4'.c; omega, fun x hx => by have := seg5 x hx; omega⟩
    rcases List.mem_cons.1 hr with rfl | hr
    · exact ⟨by show s2.c ≤ s3'.c; omega, fun x hx => by have := seg4 x hx; omega⟩
    · exact rec1 r hr
  have b26 : s6'.h.get s1.c = some (bx 1 true false (jobC c' i' l' nb' v' d' dr' (p' : Int))) := by rw [g26.keep _ (by omega)]; exact b2
  refine WP.cond (fun _ => ?_) (fun h => Bool.noConfusion ((hclr 1023 s1.c 0 _ (by omega) rec2).symm.trans h))
  refine WP.ld (sh := shJ) (x := (c', i', l', nb', v', d', dr', (p' : Int), ())) b26 (Nat.le_of_ble_eq_true rfl) rfl ?_
  refine WP.callW (r17 lf c' i' l' nb' v' d' dr' (p' : Int) (noLog s6')) (by omega) fun x s7 ⟨hx5, g7⟩ => ?_
  rw [hx5]
  obtain ⟨g67, seg7⟩ := g7.wrap
  generalize hs7 : addLog s7 s6' = s7' at g67
  have g27 := g26.trans g67
  refine WP.callW (r16 lf hlf c' i' l' nb' v' ms' d' dr' p' hp' (noLog s7') (by omega) (hv2.grow g27).noLog) (by omega) fun (x4 : Int) s8 ⟨hx6, g8⟩ => ?_
  refine WP.ret ⟨true, ?_, rfl⟩
  rw [hx4, hx6, iEq_eq, decide_eq_true rfl]; rfl
end Go.Proofs.YtifgpgahbbbkpaaGreat
