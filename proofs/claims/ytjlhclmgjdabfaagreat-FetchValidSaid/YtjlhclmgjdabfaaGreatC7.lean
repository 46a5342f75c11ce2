/- Contract of bodegalaw16.of: what it returns is a job.
Conditions: none. -/
import Derived.Test.YtjlhclmgjdabfaaGreatC6
namespace Go.Proofs.YtjlhclmgjdabfaaGreat
set_option linter.unusedSimpArgs false
set_option linter.unusedSectionVars false
open Go Go.Ax
set_option linter.unusedVariables false
set_option maxRecDepth 100000

abbrev shJ : S2 := .agg [.int .i64, .int .i64, .slice, .slice]
noncomputable abbrev jobB (t nb : Int) (v u : SV) : AObj := bx 1 true false [vI t, vI nb, .slice v.a v.n v.c, .slice u.a u.n u.c]
theorem maxI_eq (n : Nat) : maxI 1 (Int.ofNat n) = if 1 < n then (n : Int) else 1 := by
  unfold maxI
  rw [iLt_eq]
  by_cases h : 1 < n
  · rw [decide_eq_true (show (1 : Int) < Int.ofNat n by show (1 : Int) < (n : Int); omega), if_pos h]; rfl
  · rw [decide_eq_false (show ¬ (1 : Int) < Int.ofNat n by show ¬ (1 : Int) < (n : Int); omega), if_neg h]; rfl

theorem r7 (lf : Nat) (hlf : 2000 ≤ lf) (a1 a2 a3 a4 : Int) (w : SV) (rs : List Int) (k : Nat) (hk : 1 ≤ k) (hk5 : k ≤ 5) (s : HS) (hr : rs.length ≤ 10) (hw : HoldI s w rs) :
    R16 lf 3 7 [.agg ⟨[vI a1, vI a2, vI a3, vI a4, .slice w.a w.n w.c]⟩, vI (k : Int)] (.v shJ) s fun x s' =>
      (∃ ms : List Mem, ms.length ≤ 5 ∧ HoldA (s.c ≤ ·) s' x.2.2.1 3 (ms.flatMap memC)) ∧ (∃ us : List Int, us.length ≤ 16 ∧ HoldA (s.c ≤ ·) s' x.2.2.2.1 1 (us.map vI)) ∧ Grow s s' := by
  refine Runs.of (fun call => d7 call lf a1 a2 a3 a4 w (k : Int)) (show env16.fn.get 7 = some Tryz.f7 by kernel_rfl) rfl (fun call => d7_eq call lf a1 a2 a3 a4 w (k : Int)) fun n hn => ?_
  have hwn := HoldI.n hw
  refine WP.new (WP.new ?_)
  generalize hB0 : bx 1 true false [Value.int IntKind.i64 a1, Value.int IntKind.i64 a2, Value.int IntKind.i64 a3, Value.int IntKind.i64 a4, Value.slice w.a w.n w.c] = B0
  generalize hs0 : push (push s B0) (bx 1 true false [Value.int IntKind.i64 0, Value.int IntKind.i64 0, Value.slice none 0 0, Value.slice none 0 0]) = s0
  have g0 : Grow s s0 := hs0 ▸ ((Grow.push s _).then_push _)
  have hc0 : s0.c = s.c + 2 := by rw [← hs0]; rfl
  have hc1 : (push s B0).c = s.c + 1 := rfl
  rw [hc1]
  have b0 : ∀ {t}, Grow s0 t → t.h.get s.c = some (bx 1 true false [vI a1, vI a2, vI a3, vI a4, Value.slice w.a w.n w.c]) := fun {t} g => by
    rw [g.keep _ (by omega), ← hs0, push_get, if_neg (by rw [hc1]; omega), push_at, ← hB0]
  have b1 : ∀ {t}, Grow s0 t → t.h.get (s.c + 1) = some (bx 1 true false [vI 0, vI 0, Value.slice none 0 0, Value.slice none 0 0]) := fun {t} g => by
    rw [g.keep _ (by omega), ← hs0, push_get, if_pos hc1.symm]
  refine WP.field (sh := sI) (x := a1) (b0 (Grow.refl _)) (Nat.le_of_ble_eq_true rfl) rfl fun _ => ?_
  refine WP.call (r17 lf a1 s0) (by omega) fun (tot : Int) s1' ⟨e, ht⟩ => ?_
  rw [e]
  have htot : 98 ≤ tot ∧ tot ≤ 104 := by
    have ht : tot = 98 + a1 % 7 := ht
    omega
  refine WP.call (r21 lf hlf k hk hk5 s0) (by omega) fun x s1 ⟨h1, h2, g1⟩ => ?_
  obtain ⟨x1, v0, _⟩ := x
  simp only at h1 h2
  subst h1
  refine WP.newst rfl rfl fun s2 g2 c2 b2 => ?_
  have g12 := g1.trans g2
  have hs01 := g1.c
  -- the members
  refine WP.bind (R := fun _ s' => Grow s0 s' ∧ s1.c + 1 ≤ s'.c ∧ ∃ (nb : Int) (v : SV) (ms : List Mem), s'.h.get s1.c = some (jobB tot nb v ⟨none, 0, 0⟩) ∧ 1 ≤ ms.length ∧ ms.length ≤ 5 ∧
      HoldA (fun b => s.c + 2 ≤ b ∧ b ≠ s1.c) s' v 3 (ms.flatMap memC)) ?_ ?_
  · refine WP.field (sh := sI) (x := a2) (b0 g12) (Nat.le_of_ble_eq_true rfl) rfl fun _ => ?_
    refine WP.call (r11 lf a2 3 s2 (by omega)) (by omega) fun (y : Int) s3 ⟨e, hy, _⟩ => ?_
    rw [e]
    have old : HoldA (fun b => s.c + 2 ≤ b ∧ b ≠ s1.c) s2 v0 3 ((mems0 k).flatMap memC) := ((h2.mono (B := fun b => s.c + 2 ≤ b ∧ b ≠ s1.c) fun b hb hA => by
      constructor
      · omega
      · omega).grow g2)
    refine WP.cond (fun hb => ?_) (fun hb => WP.ret ⟨g12, by omega, 0, v0, mems0 k, b2, by rw [mems0_len]; omega, by rw [mems0_len]; omega, old⟩)
    refine WP.field (sh := sI) (x := a2) (b0 g12) (Nat.le_of_ble_eq_true rfl) rfl fun _ => ?_
    refine WP.call (r28 lf hlf a2 k hk5 s2) (by omega) fun x s3 ⟨h3, ⟨ms, m1, m5, h4⟩, g3⟩ => ?_
    obtain ⟨x1, v, _⟩ := x
    simp only at h3 h4
    subst h3
    refine WP.fld (WP.st (b := s1.c) (off := 1) (es := 1) (ti := true) (L := [vI tot, vI 0, Value.slice v0.a v0.n v0.c, Value.slice none 0 0]) (by rw [g3.keep _ (by omega)]; exact b2) rfl (Nat.le_of_ble_eq_true rfl) (WP.ret ?_))
    refine ⟨(g12.trans g3).upd (by omega) _, by rw [upd_c]; have := g3.c; omega, 0, v, ms, by rw [upd_get, if_pos rfl]; rfl, m1, m5, ?_⟩
    exact (h4.mono (B := fun b => s.c + 2 ≤ b ∧ b ≠ s1.c) fun b hb hA => by
      constructor
      · omega
      · omega).upd (by simp) _
  rintro _ s3 ⟨g3, c3, nb, v, ms, hj, m1, m5, hv⟩
  -- which lines
  refine WP.new ?_
  generalize hs4 : push s3 _ = s4
  have g4 : Grow s0 s4 := hs4 ▸ g3.then_push _
  have c4 : s4.c = s3.c + 1 := by rw [← hs4]; rfl
  have hH : s4.h.get s3.c = some (bx 1 true false ((List.replicate 16 false).map Value.bool)) := by rw [← hs4]; exact push_at _ _
  have hj4 : s4.h.get s1.c = some (jobB tot nb v ⟨none, 0, 0⟩) := by rw [← hs4, push_get, if_neg (by omega)]; exact hj
  have hv4 : HoldA (fun b => s.c + 2 ≤ b ∧ b ≠ s1.c ∧ b < s3.c) s4 v 3 (ms.flatMap memC) := (hv.mono (B := fun b => s.c + 2 ≤ b ∧ b ≠ s1.c ∧ b < s3.c) fun b hb hA => ⟨hA.1, hA.2, hb⟩).grow (hs4 ▸ Grow.push s3 _)
  clear hs4 hv hj
  refine WP.loop rs.length (fun i x s' => x = ((i : Int), ()) ∧ Grow s0 s' ∧ s'.c = s4.c ∧ s'.h.get s1.c = some (jobB tot nb v ⟨none, 0, 0⟩) ∧ HoldA (fun b => s.c + 2 ≤ b ∧ b ≠ s1.c ∧ b < s3.c) s' v 3 (ms.flatMap memC) ∧
      ∃ hs : List Bool, hs.length = 16 ∧ s'.h.get s3.c = some (bx 1 true false (hs.map Value.bool)))
    (fun z s' => Grow s0 s' ∧ s'.c = s4.c ∧ s'.h.get s1.c = some (jobB tot nb v ⟨none, 0, 0⟩) ∧ HoldA (fun b => s.c + 2 ≤ b ∧ b ≠ s1.c ∧ b < s3.c) s' v 3 (ms.flatMap memC) ∧
      ∃ hs : List Bool, hs.length = 16 ∧ s'.h.get s3.c = some (bx 1 true false (hs.map Value.bool))) (by omega)
    ⟨rfl, g4, rfl, hj4, hv4, List.replicate 16 false, rfl, hH⟩ ?_ ?_
  · rintro i x s5 hi ⟨rfl, g, hc, hj, hv, hs, hl, hH⟩
    refine WP.field (sh := sS) (x := w) (b0 g) (Nat.le_of_ble_eq_true rfl) rfl fun _ => ?_
    refine WP.cond (fun hcd => ?_) (fun hcd => WP.ret ⟨g, hc, hj, hv, hs, hl, hH⟩)
    have hi' : i < w.n := lt_nat hcd
    refine WP.field (sh := sS) (x := w) (b0 g) (Nat.le_of_ble_eq_true rfl) rfl fun _ => ?_
    refine WP.elem (sh := sI) (x := rs[i]) (hw.grow (g0.trans g)) hi' rfl (by rw [ints_drop rs i (by omega)]; rfl) fun p => ?_
    refine WP.field (sh := sI) (x := tot) hj (Nat.le_of_ble_eq_true rfl) rfl fun _ => ?_
    have hsub : wrapK .i64 (Int.sub tot 96) = tot - 96 := wrap_small (i := Int.sub tot 96) (by show _ ≤ tot - 96; omega) (by show tot - 96 < _; omega)
    rw [hsub]
    refine WP.callW (r11 lf rs[i] (tot - 96) (noLog s5) (by omega)) (by omega) fun (y : Int) s6 ⟨e, hy, _⟩ => ?_
    have hy : y = rs[i] % (tot - 96) := hy (by omega)
    rw [e]
    have hnl : addLog (noLog s5) s5 = s5 := rfl
    rw [hnl]
    have y0 : (0 : Int) ≤ y := by rw [hy]; exact Int.emod_nonneg _ (by omega)
    have y1 : (y : Int) < 16 := by have := Int.emod_lt_of_pos rs[i] (show 0 < tot - 96 by omega); rw [← hy] at this; show (y : Int) < 16; omega
    obtain ⟨q, rfl⟩ := Int.eq_ofNat_of_zero_le y0
    refine WP.ix (n := 16) (es := 1) (i := q) (by have : ((q : Nat) : Int) < 16 := y1; omega) ?_
    refine WP.stW (es := 1) (ti := true) hH rfl (by rw [List.length_map, hl]; show 0 + q * 1 + 1 ≤ 16; have : ((q : Nat) : Int) < 16 := y1; omega) (WP.ret ?_)
    refine ⟨by omega, by rw [wrap_up (by omega)], g.upd (by omega) _, hc, by rw [upd_get, if_neg (by omega)]; exact hj, hv.upd (fun h => absurd h.2.2 (Nat.lt_irrefl _)) _, hs.set q true, by rw [List.length_set]; exact hl, ?_⟩
    rw [upd_get, if_pos rfl, List.map_set]
    show some (bx 1 true false ((hs.map Value.bool).set (0 + q * 1) (.bool true))) = _
    rw [Nat.zero_add, Nat.mul_one]
  rintro _ s5 ⟨g, hc, hj, hv, hs, hl, hH⟩
  have hc5 : s5.c = s3.c + 1 := by omega
  -- the lines
  refine WP.loop 16 (fun i x s' => x = ((i : Int), ()) ∧ Grow s0 s' ∧ s3.c + 1 ≤ s'.c ∧ HoldA (fun b => s.c + 2 ≤ b ∧ b ≠ s1.c ∧ b < s3.c) s' v 3 (ms.flatMap memC) ∧ s'.h.get s3.c = some (bx 1 true false (hs.map Value.bool)) ∧
      ∃ (u : SV) (us : List Int), s'.h.get s1.c = some (jobB tot nb v u) ∧ us.length ≤ i ∧ Own (s3.c + 1) s' u 1 (us.map vI))
    (fun z s' => Grow s0 s' ∧ s3.c + 1 ≤ s'.c ∧ HoldA (fun b => s.c + 2 ≤ b ∧ b ≠ s1.c ∧ b < s3.c) s' v 3 (ms.flatMap memC) ∧
      ∃ (u : SV) (us : List Int), s'.h.get s1.c = some (jobB tot nb v u) ∧ us.length ≤ 16 ∧ Own (s3.c + 1) s' u 1 (us.map vI)) (by omega)
    ⟨rfl, g, by omega, hv, hH, ⟨none, 0, 0⟩, [], hj, Nat.le_refl _, Own.nil _ _ _⟩ ?_ ?_
  · rintro i x s6 hi ⟨rfl, g, hc6, hv, hH, u, us, hj, hus, ow⟩
    have hun : u.n = us.length := by have := ow.len; rw [List.length_map] at this; omega
    refine WP.cond (fun hcd => ?_) (fun hcd => WP.ret ⟨g, hc6, hv, u, us, hj, by omega, ow⟩)
    have hi' : i < 16 := lt_nat (n := 16) hcd
    refine WP.bind (R := fun _ s' => Grow s0 s' ∧ s3.c + 1 ≤ s'.c ∧ HoldA (fun b => s.c + 2 ≤ b ∧ b ≠ s1.c ∧ b < s3.c) s' v 3 (ms.flatMap memC) ∧ s'.h.get s3.c = some (bx 1 true false (hs.map Value.bool)) ∧
      ∃ (u : SV) (us : List Int), s'.h.get s1.c = some (jobB tot nb v u) ∧ us.length ≤ i + 1 ∧ Own (s3.c + 1) s' u 1 (us.map vI)) ?_ fun _ s7 ⟨h1, h2, h3, h4, h5⟩ => WP.ret ⟨hi', by rw [wrap_up (by omega)], h1, h2, h3, h4, h5⟩
    have hil : i < hs.length := by omega
    refine WP.ix (n := 16) (es := 1) (i := i) hi' ?_
    refine WP.ld (sh := sB) (x := (hs[i] : Bool)) hH (by rw [List.length_map, hl]; show 0 + i * 1 + 1 ≤ 16; omega) (by
      rw [Nat.zero_add, Nat.mul_one, List.drop_eq_getElem_cons (by rw [List.length_map]; omega)]
      show unCells sB [(hs.map Value.bool)[i]'(by rw [List.length_map]; exact hil)] = _
      rw [List.getElem_map]; rfl) ?_
    refine WP.cond (fun hb => ?_) (fun hb => WP.ret ⟨g, hc6, hv, hH, u, us, hj, by omega, ow⟩)
    refine WP.field (sh := sS) (x := u) hj (Nat.le_of_ble_eq_true rfl) rfl fun _ => ?_
    have ub : ∀ a, u.a = some a → s3.c + 1 ≤ a.block := fun a ha => by
      rcases ow.at' with ⟨h1, _⟩ | ⟨b, h1, h2, _⟩
      · rw [h1] at ha; cases ha
      · rw [h1] at ha; injection ha with ha; rw [← ha]; exact h2
    refine WP.app1 (lo := s3.c + 1) (es := 1) (bytes := 8) (v := u) ow hc6 rfl rfl (by omega) (by omega) rfl (by omega) fun c v' s7 hv' ow' hc7 hk7 gr => ?_
    have k7 : ∀ b, b < s3.c + 1 → s7.h.get b = s6.h.get b := fun b hb => hk7 b (by omega) fun a ha e => by have := ub a ha; omega
    refine WP.fld (WP.st (b := s1.c) (es := 1) (ti := true) (L := [vI tot, vI nb, Value.slice v.a v.n v.c, Value.slice u.a u.n u.c]) (by rw [k7 s1.c (by omega)]; exact hj) rfl (Nat.le_of_ble_eq_true rfl) (WP.ret ?_))
    refine ⟨(gr s0 (by omega) g).upd (by omega) _, by rw [upd_c]; omega, ?_, ?_, v', us ++ [wrapK .i64 (Int.add 96 ((i : Nat) : Int))], ?_, ?_, ?_⟩
    · exact (hv.keep hc7 (fun b hb hA => k7 b (by have := hA.2.2; omega))).upd (fun h => h.2.1 rfl) _
    · rw [upd_get, if_neg (by omega), k7 s3.c (by omega)]; exact hH
    · rw [upd_get, if_pos rfl]; rfl
    · rw [List.length_append]; simp; omega
    · rw [List.map_append]
      exact ow'.upd (by omega) _
  rintro _ s6 ⟨g, hc6, hv, u, us, hj, hus, ow⟩
  have hun : u.n = us.length := by have := ow.len; rw [List.length_map] at this; omega
  refine WP.field (sh := sI) (x := a4) (b0 g) (Nat.le_of_ble_eq_true rfl) rfl fun _ => ?_
  refine WP.field (sh := sS) (x := u) hj (Nat.le_of_ble_eq_true rfl) rfl fun _ => ?_
  have hmx : maxI 1 (Int.ofNat u.n) ≤ 17 ∧ 1 ≤ maxI 1 (Int.ofNat u.n) ∧ (0 < u.n → maxI 1 (Int.ofNat u.n) = (u.n : Int)) := by
    rw [maxI_eq]; split <;> omega
  refine WP.call (r11 lf a4 (maxI 1 (Int.ofNat u.n)) s6 (by omega)) (by omega) fun (kk : Int) s7 ⟨e, hkk, _⟩ => ?_
  have hkk : kk = a4 % maxI 1 (Int.ofNat u.n) := hkk hmx.2.1
  rw [e]
  -- the fault
  have upA : ∀ {s' : HS} {x : SV} {es : Nat} {L : List Value}, HoldA (fun b => s.c + 2 ≤ b ∧ b ≠ s1.c ∧ b < s3.c) s' x es L → HoldA (fun b => s.c + 2 ≤ b ∧ b ≠ s1.c) s' x es L := fun h => h.mono fun b _ hA => ⟨hA.1, hA.2.1⟩
  have upO : ∀ {lo : Nat} {s' : HS} {x : SV} {es : Nat} {L : List Value}, Own lo s' x es L → s3.c + 1 ≤ lo → HoldA (fun b => s.c + 2 ≤ b ∧ b ≠ s1.c) s' x es L := fun h hlo => h.holdA.mono fun b _ hA => by
    have hA : _ ≤ b := hA
    constructor
    · have := g0.c; omega
    · omega
  refine WP.bind (R := fun _ s' => Grow s0 s' ∧ ∃ (t nb : Int) (v u : SV) (ms : List Mem) (us : List Int), s'.h.get s1.c = some (jobB t nb v u) ∧ ms.length ≤ 5 ∧ us.length ≤ 16 ∧
      HoldA (fun b => s.c + 2 ≤ b ∧ b ≠ s1.c) s' v 3 (ms.flatMap memC) ∧ HoldA (fun b => s.c + 2 ≤ b ∧ b ≠ s1.c) s' u 1 (us.map vI)) ?_ ?_
  · have same : Grow s0 s6 ∧ ∃ (t nb : Int) (v u : SV) (ms : List Mem) (us : List Int), s6.h.get s1.c = some (jobB t nb v u) ∧ ms.length ≤ 5 ∧ us.length ≤ 16 ∧
      HoldA (fun b => s.c + 2 ≤ b ∧ b ≠ s1.c) s6 v 3 (ms.flatMap memC) ∧ HoldA (fun b => s.c + 2 ≤ b ∧ b ≠ s1.c) s6 u 1 (us.map vI) := ⟨g, tot, nb, v, u, ms, us, hj, m5, hus, upA hv, upO ow (Nat.le_refl _)⟩
    refine WP.field (sh := sI) (x := a3) (b0 g) (Nat.le_of_ble_eq_true rfl) rfl fun _ => ?_
    refine WP.call (r11 lf a3 12 s6 (by omega)) (by omega) fun (y : Int) s7' ⟨e, _, _⟩ => ?_
    rw [e]
    refine WP.cond (fun hb => ?_) (fun hb => WP.cond (fun hb => ?_) (fun hb => WP.cond (fun hb => ?_) (fun hb => WP.ret same)))
    · refine WP.field (sh := sI) (x := a4) (b0 g) (Nat.le_of_ble_eq_true rfl) rfl fun _ => ?_
      refine WP.call (r11 lf a4 300 s6 (by omega)) (by omega) fun (t : Int) s7 ⟨e, _, _⟩ => ?_
      rw [e]
      refine WP.fld (WP.st (b := s1.c) (es := 1) (ti := true) (L := [vI tot, vI nb, Value.slice v.a v.n v.c, Value.slice u.a u.n u.c]) hj rfl (Nat.le_of_ble_eq_true rfl) (WP.ret ?_))
      exact ⟨g.upd (by omega) _, t, nb, v, u, ms, us, by rw [upd_get, if_pos rfl]; rfl, m5, hus, (upA hv).upd (fun h => h.2 rfl) _, (upO ow (Nat.le_refl _)).upd (fun h => h.2 rfl) _⟩
    · refine WP.fld (WP.fld (WP.ld (sh := sS) (x := v) hj (Nat.le_of_ble_eq_true rfl) rfl ?_))
      have hvn : v.n = ms.length := by have := hv.len; rw [flat_len memC_len] at this; omega
      refine WP.part (v := v) (l := 1) hv (by omega) (by omega) fun v' hv'n hv' => ?_
      have htail : (ms.flatMap memC).drop (1 * 3) = (ms.drop 1).flatMap memC := by
        match ms, m1 with
        | m :: ms, _ => rfl
      rw [htail] at hv'
      have hcells : allCells ((ms.drop 1).flatMap memC) = true := by
        rw [allCells_iff]
        intro x hx
        obtain ⟨m, _, hm⟩ := List.mem_flatMap.1 hx
        simp only [memC, List.mem_cons, List.not_mem_nil, or_false] at hm
        rcases hm with rfl | rfl | rfl <;> rfl
      refine WP.appNil (es := 3) (bytes := 24) hv' (by omega) hcells (by omega) fun v2 s7 hn2 ow2 g7 => ?_
      refine WP.fld (WP.fld (WP.st (b := s1.c) (off := 2) (es := 1) (ti := true) (L := [vI tot, vI nb, Value.slice v.a v.n v.c, Value.slice u.a u.n u.c]) (by rw [g7.keep _ (by omega)]; exact hj) rfl (Nat.le_of_ble_eq_true rfl) (WP.ret ?_)))
      refine ⟨(g.trans g7).upd (by omega) _, tot, nb, v2, u, ms.drop 1, us, by rw [upd_get, if_pos rfl]; rfl, by rw [List.length_drop]; omega, hus, ?_, ?_⟩
      · exact (upO ow2 hc6).upd (fun h => h.2 rfl) _
      · exact ((upO ow (Nat.le_refl _)).grow g7).upd (fun h => h.2 rfl) _
    · refine WP.field (sh := sS) (x := u) hj (Nat.le_of_ble_eq_true rfl) rfl fun _ => ?_
      refine WP.cond (fun hb => ?_) (fun hb => WP.ret same)
      have hpos : 0 < u.n := by have h : ((0 : Nat) : Int) < (u.n : Int) := iLt_t hb; omega
      refine WP.field (sh := sI) (x := a4) (b0 g) (Nat.le_of_ble_eq_true rfl) rfl fun _ => ?_
      refine WP.callW (r11 lf _ 9 (noLog s6) (by omega)) (by omega) fun (y2 : Int) s7 ⟨e, _, _⟩ => ?_
      rw [e]
      have hnl : addLog (noLog s6) s6 = s6 := rfl
      rw [hnl]
      have hclr : ∀ (m : Nat) (b off : Nat), b < s6.c → clrP m (some ⟨b, off, none⟩) [(11, (noLog s6).c, (noLog s6).log)] = true := fun m b off hb => clrP_ok _ fun r hr => .inr fun a ha => by
        rw [List.mem_singleton] at hr
        injection ha with ha
        rw [hr, ← ha]
        exact ⟨hb, List.not_mem_nil⟩
      have hq0 : 0 ≤ kk := by rw [hkk]; exact Int.emod_nonneg _ (by omega)
      have hq1 : kk < (u.n : Int) := by rw [hkk, hmx.2.2 hpos]; exact Int.emod_lt_of_pos _ (by omega)
      obtain ⟨q, rfl⟩ := Int.eq_ofNat_of_zero_le hq0
      have hqn : q < u.n := by omega
      rcases ow.at' with ⟨_, h0⟩ | ⟨b, e1, e2, e3, e4, _⟩
      · omega
      refine WP.fld (WP.cond (fun _ => ?_) (fun h => Bool.noConfusion ((hclr 1 s1.c 3 (by omega)).symm.trans h)))
      refine WP.ld (sh := sS) (x := u) hj (Nat.le_of_ble_eq_true rfl) rfl ?_
      refine WP.fld (WP.cond (fun _ => ?_) (fun h => Bool.noConfusion ((hclr 8 s1.c 3 (by omega)).symm.trans h)))
      refine WP.ld (sh := sS) (x := u) hj (Nat.le_of_ble_eq_true rfl) rfl ?_
      rw [e1]
      refine WP.ix (n := u.n) (es := 1) (i := q) hqn ?_
      refine WP.cond (fun _ => ?_) (fun h => Bool.noConfusion ((hclr 120 b _ (by omega)).symm.trans h))
      have hql : q < us.length := by omega
      refine WP.ld (sh := sI) (x := us[q]) e4 (by rw [List.length_map]; show 0 + q * 1 + 1 ≤ us.length; omega) (by
        rw [Nat.zero_add, Nat.mul_one, List.drop_eq_getElem_cons (by rw [List.length_map]; omega)]
        show unCells sI [(us.map vI)[q]'(by rw [List.length_map]; exact hql)] = _
        rw [List.getElem_map]; rfl) ?_
      refine WP.ix (n := u.n) (es := 1) (i := q) hqn ?_
      refine WP.stW (es := 1) (ti := false) e4 rfl (by rw [List.length_map]; show 0 + q * 1 + 1 ≤ us.length; omega) (WP.ret ?_)
      generalize wrapK .i64 (Int.sub _ 4) = val
      refine ⟨g.upd (by have := g0.c; have := g3.c; omega) _, tot, nb, v, u, ms, us.set q val, ?_, m5, by rw [List.length_set]; exact hus, ?_, ?_⟩
      · rw [upd_get, if_neg (by omega)]; exact hj
      · exact (upA (hv.upd (fun h => by have := h.2.2; omega) _))
      · refine upO (lo := s3.c + 1) ⟨by rw [List.length_map, List.length_set]; omega, ow.cap, .inr ⟨b, e1, e2, e3, ?_, hpos⟩⟩ (Nat.le_refl _)
        rw [upd_get, if_pos rfl, List.map_set]
        show some (bx 1 false false ((us.map vI).set (0 + q * 1) (vI val))) = _
        rw [Nat.zero_add, Nat.mul_one]
  rintro _ s7 ⟨g, t, nb, v, u, ms, us, hj, m5, hus, hv, hu⟩
  refine WP.ld (sh := shJ) (x := (t, nb, v, u, ())) hj (Nat.le_of_ble_eq_true rfl) rfl ?_
  refine WP.st (b1 g) rfl (Nat.le_of_ble_eq_true rfl) ?_
  refine WP.ld (sh := shJ) (x := (t, nb, v, u, ())) (es := 1) (ti := true) (ro := false) (L := [vI t, vI nb, Value.slice v.a v.n v.c, Value.slice u.a u.n u.c]) (by rw [upd_get, if_pos rfl]; rfl) (Nat.le_of_ble_eq_true rfl) rfl ?_
  refine WP.ret ⟨(t, nb, v, u, ()), rfl, ⟨ms, m5, ?_⟩, ⟨us, hus, ?_⟩, ?_⟩
  · exact (hv.upd (fun h => by have := h.1; omega) _).mono fun b _ h => by have := h.1; show s.c ≤ b; omega
  · exact (hu.upd (fun h => by have := h.1; omega) _).mono fun b _ h => by have := h.1; show s.c ≤ b; omega
  · have := g0.trans g
    exact this.upd (by omega) _
end Go.Proofs.YtjlhclmgjdabfaaGreat
