/- FetchValid: for all numbers and lists the law answers true.
Conditions: none. -/
import Derived.Test.YtjlhclmgjdabfaaGreatC7
import Derived.Test.YtjlhclmgjdabfaaGreatFV
namespace Go.Proofs.YtjlhclmgjdabfaaGreat
set_option linter.unusedSimpArgs false
set_option linter.unusedSectionVars false
open Go Go.Ax
set_option linter.unusedVariables false
set_option maxRecDepth 100000

theorem r8 (lf : Nat) (s : HS) : R16 lf 1 8 [] shB s fun x s' => x = true ∧ s' = s := by
  intro n hn
  obtain ⟨m, rfl⟩ : ∃ m, n = m + 1 := ⟨n - 1, by omega⟩
  exact ⟨true, s, rfl, rfl, rfl⟩

theorem r3 (lf : Nat) (hlf : 2000 ≤ lf) (total number a1 a2 a3 a4 : Int) (v u w : SV) (ms : List Mem) (zs rs : List Int) (s : HS) (hv : HoldM s v ms) (hu : HoldI s u zs) (hw : HoldI s w rs) :
    R16 lf 6 3 [.agg ⟨[vI total, vI number, .slice v.a v.n v.c, .slice u.a u.n u.c]⟩, .agg ⟨[vI a1, vI a2, vI a3, vI a4, .slice w.a w.n w.c]⟩] shB s fun x s' => x = true := by
  refine Runs.of (fun call => d3 call lf total number v u a1 a2 a3 a4 w) (show env16.fn.get 3 = some Tryz.f3 by kernel_rfl) rfl (fun call => d3_eq call lf total number v u a1 a2 a3 a4 w) fun n hn => ?_
  have hvn := HoldM.n hv
  have hun := HoldI.n hu
  have hwn := HoldI.n hw
  refine WP.new (WP.new ?_)
  generalize hB0 : bx 1 true false [Value.int IntKind.i64 total, Value.int IntKind.i64 number, Value.slice v.a v.n v.c, Value.slice u.a u.n u.c] = B0
  have hc1 : (push s B0).c = s.c + 1 := rfl
  rw [hc1]
  generalize hs0 : push (push s B0) _ = s0
  have g0 : Grow s s0 := hs0 ▸ ((Grow.push s _).then_push _)
  have hc0 : s0.c = s.c + 2 := by rw [← hs0]; rfl
  have b0 : ∀ {t}, Grow s0 t → t.h.get s.c = some (bx 1 true false [vI total, vI number, Value.slice v.a v.n v.c, Value.slice u.a u.n u.c]) := fun {t} g => by
    rw [g.keep _ (by omega), ← hs0, push_get, if_neg (by rw [hc1]; omega), push_at, ← hB0]
  have b1 : ∀ {t}, Grow s0 t → t.h.get (s.c + 1) = some (bx 1 true false [vI a1, vI a2, vI a3, vI a4, Value.slice w.a w.n w.c]) := fun {t} g => by
    rw [g.keep _ (by omega), ← hs0, push_get, if_pos hc1.symm]
  have rg := Grow.refl s0
  refine WP.fld (WP.fld (WP.ld (sh := sS) (x := v) (b0 rg) (Nat.le_of_ble_eq_true rfl) rfl ?_))
  refine WP.cond (fun _ => WP.ret ⟨true, rfl, rfl⟩) (fun h8 => ?_)
  refine WP.field (sh := sS) (x := u) (b0 rg) (Nat.le_of_ble_eq_true rfl) rfl fun _ => ?_
  refine WP.cond (fun _ => WP.ret ⟨true, rfl, rfl⟩) (fun h1100 => ?_)
  refine WP.field (sh := sS) (x := w) (b1 rg) (Nat.le_of_ble_eq_true rfl) rfl fun _ => ?_
  refine WP.cond (fun _ => WP.ret ⟨true, rfl, rfl⟩) (fun h10 => ?_)
  have l1 : ms.length ≤ 1100 := by have h : (v.n : Int) ≤ 8 := iLt_f h8; omega
  have l2 : zs.length ≤ 1100 := by have h : (u.n : Int) ≤ 1100 := iLt_f h1100; omega
  have l3 : rs.length ≤ 10 := by have h : (w.n : Int) ≤ 10 := iLt_f h10; omega
  refine WP.ld (sh := .agg [.int .i64, .int .i64, .int .i64, .int .i64, .slice]) (x := (a1, a2, a3, a4, w, ())) (b1 rg) (Nat.le_of_ble_eq_true rfl) rfl ?_
  refine WP.call (r7 lf hlf a1 a2 a3 a4 w rs 3 (by omega) (by omega) s0 l3 (hw.grow g0)) (by omega) fun x s1 ⟨⟨ms', m5, hv'⟩, ⟨us', u16, hu'⟩, g1⟩ => ?_
  obtain ⟨t', nb', v', u', _⟩ := x
  simp only at hv' hu'
  refine WP.newst rfl rfl fun s2 g2 c2 b2 => ?_
  have gc1 := g1.c
  have g02 := g1.trans g2
  have hv2 : HoldM s2 v' ms' := (hv'.grow g2).hold
  have hu2 : HoldI s2 u' us' := (hu'.grow g2).hold
  have hv02 : HoldM s2 v ms := (hv.grow g0).grow g02
  have hu02 : HoldI s2 u zs := (hu.grow g0).grow g02
  have hclr : ∀ (m b off : Nat) (recs : Recs), b < s2.c → (∀ r ∈ recs, s2.c ≤ r.2.1 ∧ ∀ x ∈ r.2.2, s2.c ≤ x) → clrP m (some ⟨b, off, none⟩) recs = true := fun m b off recs hb hr => clrP_ok _ fun r hmem => .inr fun a ha => by
    injection ha with ha
    obtain ⟨h1, h2⟩ := hr r hmem
    rw [← ha]
    refine ⟨by show b < _; omega, fun hm => ?_⟩
    have := h2 _ hm
    have : s2.c ≤ b := this
    omega
  refine WP.callW (r8 lf (noLog s2)) (by omega) fun x s3 ⟨hx, e⟩ => ?_
  rw [e, hx]
  have hnl : addLog (noLog s2) s2 = s2 := rfl
  rw [hnl]
  refine WP.cond (fun _ => ?_) (fun h => by cases h)
  refine WP.ld (sh := shJ) (x := (total, number, v, u, ())) (b0 g02) (Nat.le_of_ble_eq_true rfl) rfl ?_
  refine WP.callW (r9 lf hlf total number v u ms zs (noLog s2) l1 l2 hv02.noLog hu02.noLog) (by omega) fun (x1 : Int) s3 ⟨hx1, g3⟩ => ?_
  obtain ⟨g23, seg3⟩ := g3.wrap
  generalize hs3 : addLog s3 s2 = s3' at g23
  have g03 := g02.trans g23
  have gc3 := g23.c
  have rec1 : ∀ r ∈ [(3, (s2.c, s3.log)), (0, (s2.c, (noLog s2).log))], s2.c ≤ r.2.1 ∧ ∀ x ∈ r.2.2, s2.c ≤ x := by
    intro r hr
    rcases List.mem_cons.1 hr with rfl | hr
    · exact ⟨Nat.le_refl _, seg3⟩
    · rw [List.mem_singleton] at hr; subst hr; exact ⟨Nat.le_refl _, fun _ h => absurd h List.not_mem_nil⟩
  refine WP.fld (WP.cond (fun _ => ?_) (fun h => Bool.noConfusion ((hclr 19 s.c 0 _ (by omega) rec1).symm.trans h)))
  refine WP.ld (sh := sI) (x := total) (b0 g03) (Nat.le_of_ble_eq_true rfl) rfl ?_
  refine WP.fld (WP.cond (fun _ => ?_) (fun h => Bool.noConfusion ((hclr 67 s.c 1 _ (by omega) rec1).symm.trans h)))
  refine WP.ld (sh := shV) (x := (number, v, ())) (b0 g03) (Nat.le_of_ble_eq_true rfl) rfl ?_
  refine WP.fld (WP.cond (fun _ => ?_) (fun h => Bool.noConfusion ((hclr 259 s.c 3 _ (by omega) rec1).symm.trans h)))
  refine WP.ld (sh := sS) (x := u) (b0 g03) (Nat.le_of_ble_eq_true rfl) rfl ?_
  refine WP.callW (r10 lf hlf total number v u ms zs (noLog s3') l1 l2 (hv02.grow g23).noLog (hu02.grow g23).noLog) (by omega) fun (x2 : Int) s4 ⟨hx2, g4⟩ => ?_
  obtain ⟨g34, seg4⟩ := g4.wrap
  generalize hs4 : addLog s4 s3' = s4' at g34
  have g24 := g23.trans g34
  have gc4 := g34.c
  refine WP.cond (fun _ => ?_) (fun h => absurd (hx1.trans hx2.symm) (iEq_f h))
  refine WP.ld (sh := shJ) (x := (t', nb', v', u', ())) (by rw [g24.keep _ (by omega)]; exact b2) (Nat.le_of_ble_eq_true rfl) rfl ?_
  refine WP.callW (r9 lf hlf t' nb' v' u' ms' us' (noLog s4') (by omega) (by omega) (hv2.grow g24).noLog (hu2.grow g24).noLog) (by omega) fun (x3 : Int) s5 ⟨hx3, g5⟩ => ?_
  obtain ⟨g45, seg5⟩ := g5.wrap
  generalize hs5 : addLog s5 s4' = s5' at g45
  have g25 := g24.trans g45
  have gc5 := g45.c
  have b25 : s5'.h.get s1.c = some (bx 1 true false [vI t', vI nb', Value.slice v'.a v'.n v'.c, Value.slice u'.a u'.n u'.c]) := by rw [g25.keep _ (by omega)]; exact b2
  have rec2 : ∀ r ∈ [(15, (s4'.c, s5.log)), (10, (s3'.c, s4.log)), (3, (s2.c, s3.log)), (0, (s2.c, (noLog s2).log))], s2.c ≤ r.2.1 ∧ ∀ x ∈ r.2.2, s2.c ≤ x := by
    intro r hr
    rcases List.mem_cons.1 hr with rfl | hr
    · exact ⟨by show s2.c ≤ s4'.c; omega, fun x hx => by have := seg5 x hx; omega⟩
    rcases List.mem_cons.1 hr with rfl | hr
    · exact ⟨by show s2.c ≤ s3'.c; omega, fun x hx => by have := seg4 x hx; omega⟩
    · exact rec1 r hr
  refine WP.fld (WP.cond (fun _ => ?_) (fun h => Bool.noConfusion ((hclr 81919 s1.c 0 _ (by omega) rec2).symm.trans h)))
  refine WP.ld (sh := sI) (x := t') b25 (Nat.le_of_ble_eq_true rfl) rfl ?_
  refine WP.fld (WP.cond (fun _ => ?_) (fun h => Bool.noConfusion ((hclr 278527 s1.c 1 _ (by omega) rec2).symm.trans h)))
  refine WP.ld (sh := shV) (x := (nb', v', ())) b25 (Nat.le_of_ble_eq_true rfl) rfl ?_
  refine WP.fld (WP.cond (fun _ => ?_) (fun h => Bool.noConfusion ((hclr 1064959 s1.c 3 _ (by omega) rec2).symm.trans h)))
  refine WP.ld (sh := sS) (x := u') b25 (Nat.le_of_ble_eq_true rfl) rfl ?_
  refine WP.callW (r10 lf hlf t' nb' v' u' ms' us' (noLog s5') (by omega) (by omega) (hv2.grow g25).noLog (hu2.grow g25).noLog) (by omega) fun (x4 : Int) s6 ⟨hx4, g6⟩ => ?_
  refine WP.ret ⟨true, ?_, rfl⟩
  rw [hx3, hx4, iEq_eq, decide_eq_true rfl]; rfl
end Go.Proofs.YtjlhclmgjdabfaaGreat
