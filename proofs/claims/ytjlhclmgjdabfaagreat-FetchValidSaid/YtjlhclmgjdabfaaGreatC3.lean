/- Contracts of the reference's looks at views and jobs, and of fetch.Valid.
Conditions: none. -/
import Derived.Test.YtjlhclmgjdabfaaGreatC2
import Derived.Test.YtjlhclmgjdabfaaGreatAxM2
namespace Go.Proofs.YtjlhclmgjdabfaaGreat
set_option linter.unusedSimpArgs false
set_option linter.unusedSectionVars false
open Go Go.Ax
set_option linter.unusedVariables false
set_option maxRecDepth 100000

theorem memC_cells (m : Mem) : cellsOf (.agg ⟨memC m⟩) = memC m := rfl

theorem r68 (lf : Nat) (hlf : 2000 ≤ lf) (number : Int) (v : SV) (ms : List Mem) (s : HS) (hm : ms.length ≤ 1100) (h : HoldM s v ms) :
    R16 lf 1 68 [.agg ⟨[vI number, .slice v.a v.n v.c]⟩] (.v sS) s fun x s' => HoldM s' x (ms.filter fun m => m.2.2) ∧ Grow s s' := by
  refine Runs.of (fun call => d68 call lf number v) (show env16.fn.get 68 = some Tryz.f68 by kernel_rfl) rfl (fun call => d68_eq call lf number v) fun n hn => ?_
  have hn' := HoldM.n h
  refine WP.new ?_
  generalize hs0 : push s (bx 1 true false [vI number, Value.slice v.a v.n v.c]) = s0
  have g0 : Grow s s0 := hs0 ▸ Grow.push s _
  have hc0 : s.c < s0.c := by rw [← hs0]; exact Nat.lt_succ_self _
  have b0 : ∀ {t}, Grow s0 t → t.h.get s.c = some (bx 1 true false [vI number, Value.slice v.a v.n v.c]) := fun {t} g => by rw [g.keep _ hc0, ← hs0]; exact push_at _ _
  refine WP.loop ms.length (fun i x s' => x = (x.1, (i : Int), ()) ∧ Grow s0 s' ∧ x.1.n ≤ i ∧ Own s0.c s' x.1 3 (((ms.take i).filter fun m => m.2.2).flatMap memC))
    (fun z s' => Grow s0 s' ∧ HoldM s' z.1 (ms.filter fun m => m.2.2)) (by omega) ⟨rfl, Grow.refl _, Nat.le_refl _, Own.nil _ _ _⟩ ?_ ?_
  · rintro i ⟨w, x2⟩ s1 hi ⟨hx, g, hwn, ow⟩
    have hx2 : x2 = ((i : Int), ()) := (Prod.mk.inj hx).2
    subst hx2
    refine WP.field (sh := sS) (x := v) (b0 g) (Nat.le_of_ble_eq_true rfl) rfl fun _ => ?_
    refine WP.cond (fun hc => ?_) (fun hc => ?_)
    · have hi' : i < v.n := lt_nat hc
      have hil : i < ms.length := by omega
      have htk : ms.take (i + 1) = ms.take i ++ [ms[i]] := by rw [List.take_add_one, List.getElem?_eq_getElem hil]; rfl
      refine WP.bind (R := fun y s2 => Grow s0 s2 ∧ y.1.n ≤ i + 1 ∧ Own s0.c s2 y.1 3 (((ms.take (i + 1)).filter fun m => m.2.2).flatMap memC)) ?_ fun y s2 ⟨g2, hy, ow2⟩ => WP.ret ⟨hil, by rw [wrap_up (by omega)], g2, hy, ow2⟩
      refine WP.field (sh := sS) (x := v) (b0 g) (Nat.le_of_ble_eq_true rfl) rfl fun _ => ?_
      refine WP.elemF (sh := sB) (x := ms[i].2.2) (h.grow (g0.trans g)) hi' (Nat.le_of_ble_eq_true rfl) (by
          show unCells sB (((((ms.flatMap memC).drop (i * 3)).drop 2)).take 1) = _
          rw [flat_part memC_len ms i hil 2 1 (by omega)]; rfl) fun p q => ?_
      refine WP.cond (fun hb => ?_) (fun hb => WP.ret ⟨g, by show w.n ≤ _; have : w.n ≤ i := hwn; omega, ?_⟩)
      · refine WP.field (sh := sS) (x := v) (b0 g) (Nat.le_of_ble_eq_true rfl) rfl fun _ => ?_
        refine WP.elem (sh := sM) (x := (ms[i].1, ms[i].2.1, ms[i].2.2, ())) (h.grow (g0.trans g)) hi' rfl (by rw [flat_drop memC_len ms i hil]; rfl) fun p => ?_
        refine WP.app1 (lo := s0.c) (L := ((ms.take i).filter fun m => m.2.2).flatMap memC) (val := .agg ⟨memC ms[i]⟩) (v := w) ow g.c rfl rfl (by omega) (by omega) rfl (by have : w.n ≤ i := hwn; omega) fun c v' s' hv' ow' _ _ gr => ?_
        refine WP.ret ⟨gr _ (Nat.le_refl _) g, by show v'.n ≤ _; rw [hv']; have : w.n ≤ i := hwn; omega, ?_⟩
        rw [htk, List.filter_append, List.flatMap_append, show [ms[i]].filter (fun m => m.2.2) = [ms[i]] by simp [hb]]
        rw [show [ms[i]].flatMap memC = memC ms[i] by simp]
        exact ow'
      · rw [htk, List.filter_append, List.flatMap_append, show [ms[i]].filter (fun m => m.2.2) = [] by simp [hb]]
        rw [show ([] : List Mem).flatMap memC = [] from rfl, List.append_nil]
        exact ow
    · refine WP.ret ⟨g, ?_⟩
      have hi' : ms.take i = ms := List.take_of_length_le (by have := ge_nat hc; omega)
      rw [hi'] at ow
      exact ow.hold
  · rintro z s1 ⟨g, hz⟩
    exact WP.ret ⟨_, rfl, hz, g0.trans g⟩

theorem r31 (lf : Nat) (hlf : 2000 ≤ lf) (number nodes : Int) (v : SV) (ms : List Mem) (s : HS) (hm : ms.length ≤ 1100) (h : HoldM s v ms) :
    R16 lf 2 31 [.agg ⟨[vI number, .slice v.a v.n v.c]⟩, vI nodes] shI s fun x s' => x = vView number nodes ms ∧ Grow s s' := by
  refine Runs.of (fun call => d31 call lf number v nodes) (show env16.fn.get 31 = some Tryz.f31 by kernel_rfl) rfl (fun call => d31_eq call lf number v nodes) fun n hn => ?_
  have hn' := HoldM.n h
  refine WP.new ?_
  generalize hs0 : push s (bx 1 true false [vI number, Value.slice v.a v.n v.c]) = s0
  have g0 : Grow s s0 := hs0 ▸ Grow.push s _
  have hc0 : s.c < s0.c := by rw [← hs0]; exact Nat.lt_succ_self _
  have b0 : ∀ {t}, Grow s0 t → t.h.get s.c = some (bx 1 true false [vI number, Value.slice v.a v.n v.c]) := fun {t} g => by rw [g.keep _ hc0, ← hs0]; exact push_at _ _
  refine WP.cond (fun hb => WP.ret ⟨(1 : Int), rfl, ?_, g0⟩) (fun hn1 => ?_)
  · unfold vView; rw [if_pos]; have := iLt_t hb; omega
  refine WP.cond (fun hb => WP.ret ⟨(1 : Int), rfl, ?_, g0⟩) (fun hn2 => ?_)
  · unfold vView; rw [if_pos]; have := iLt_t hb; omega
  have hnodes : 1 ≤ nodes ∧ nodes ≤ 5 := ⟨iLt_f hn1, iLt_f hn2⟩
  refine WP.field (sh := sI) (x := number) (b0 (Grow.refl _)) (Nat.le_of_ble_eq_true rfl) rfl fun _ => ?_
  refine WP.cond (fun hb => WP.ret ⟨(2 : Int), rfl, ?_, g0⟩) (fun hb1 => ?_)
  · unfold vView; rw [if_neg (Classical.not_not.2 hnodes), if_pos (.inl (iLt_t hb))]
  refine WP.field (sh := sI) (x := number) (b0 (Grow.refl _)) (Nat.le_of_ble_eq_true rfl) rfl fun _ => ?_
  refine WP.cond (fun hb => WP.ret ⟨(2 : Int), rfl, ?_, g0⟩) (fun hb2 => ?_)
  · unfold vView; rw [if_neg (Classical.not_not.2 hnodes), if_pos (.inr (iLe_t hb))]
  have hnum : ¬ (number < 0 ∨ 16 ≤ number) := by have := iLt_f hb1; have := iLe_f hb2; omega
  have hspec : vView number nodes ms = open Classical in if ms.length = 0 then 1 else if ¬ (∀ i, okM ms nodes i) then 1 else if ¬ (∀ i, okB ms i) then 2 else if (ms.any fun m => m.2.2) = false then 13 else 0 := by
    unfold vView; rw [if_neg (Classical.not_not.2 hnodes), if_neg hnum]
  rw [hspec]
  refine WP.loop ms.length (fun i x s' => x = ((i : Int), ()) ∧ Grow s0 s' ∧ ∀ j, j < i → okM ms nodes j)
    (fun z s' => Grow s0 s' ∧ ((z = .inl () ∧ ∀ j, okM ms nodes j) ∨ (z = .inr ((1 : Int), ()) ∧ ms.length ≠ 0 ∧ ¬ ∀ j, okM ms nodes j))) (by omega) ⟨rfl, Grow.refl _, fun j hj => by omega⟩ ?_ ?_
  · rintro i x s1 hi ⟨rfl, g, hf⟩
    refine WP.field (sh := sS) (x := v) (b0 g) (Nat.le_of_ble_eq_true rfl) rfl fun _ => ?_
    refine WP.cond (fun hc => ?_) (fun hc => ?_)
    · have hi' : i < v.n := lt_nat hc
      have hil : i < ms.length := by omega
      refine WP.field (sh := sS) (x := v) (b0 g) (Nat.le_of_ble_eq_true rfl) rfl fun _ => ?_
      refine WP.elemF (sh := sI) (x := ms[i].1) (h.grow (g0.trans g)) hi' (Nat.le_of_ble_eq_true rfl) (by
          show unCells sI (((((ms.flatMap memC).drop (i * 3)).drop 0)).take 1) = _
          rw [flat_part memC_len ms i hil 0 1 (by omega)]; rfl) fun p q => ?_
      refine WP.cond (fun hb => WP.ret ⟨g, .inr ⟨rfl, by omega, fun hall => ?_⟩⟩) (fun hb4 => ?_)
      · have := (hall i hil).1; have := iLt_t hb; omega
      refine WP.cond (fun hb => WP.ret ⟨g, .inr ⟨rfl, by omega, fun hall => ?_⟩⟩) (fun hb5 => ?_)
      · have := (hall i hil).2.1; have := iLe_t hb; omega
      have next : (0 < i → ms[i - 1].1 < ms[i].1) → ∀ j, j < i + 1 → okM ms nodes j := fun hord j hj => by
        by_cases e : j = i
        · subst e; exact fun _ => ⟨iLt_f hb4, iLe_f hb5, hord⟩
        · exact hf j (by omega)
      refine WP.cond (fun hb => ?_) (fun hb => WP.ret ⟨hil, by rw [wrap_up (by omega)], g, next fun hpos => ?_⟩)
      · have hpos : 0 < i := by have := iLt_t hb; exact Int.ofNat_lt.1 this
        refine WP.field (sh := sS) (x := v) (b0 g) (Nat.le_of_ble_eq_true rfl) rfl fun _ => ?_
        obtain ⟨j, hj⟩ : ∃ j, i = j + 1 := ⟨i - 1, by omega⟩
        rw [show wrapK IntKind.i64 (Int.sub (i : Int) 1) = ((j : Nat) : Int) by subst hj; exact wrap_down (by omega)]
        refine WP.elemF (sh := sI) (x := ms[j].1) (h.grow (g0.trans g)) (by omega) (Nat.le_of_ble_eq_true rfl) (by
          show unCells sI (((((ms.flatMap memC).drop (j * 3)).drop 0)).take 1) = _
          rw [flat_part memC_len ms j (by omega) 0 1 (by omega)]; rfl) fun p q => ?_
        have hj' : i - 1 = j := by omega
        refine WP.cond (fun hb6 => WP.ret ⟨g, .inr ⟨rfl, by omega, fun hall => ?_⟩⟩) (fun hb6 => WP.ret ⟨hil, by rw [wrap_up (by omega)], g, next fun _ => ?_⟩)
        · have h1 := (hall i hil).2.2 hpos; have h2 := iLe_t hb6; simp only [hj'] at h1; omega
        · have h2 := iLe_f hb6; simp only [hj']; exact h2
      · have := iLt_f hb; omega
    · refine WP.ret ⟨g, .inl ⟨rfl, fun j hj => hf j (by have := ge_nat hc; omega) hj⟩⟩
  rintro z s1 ⟨g, ⟨rfl, hall⟩ | ⟨rfl, hne, hnall⟩⟩
  rotate_left
  · exact WP.ret ⟨(1 : Int), rfl, by rw [if_neg hne, if_pos hnall], g0.trans g⟩
  refine WP.field (sh := sS) (x := v) (b0 g) (Nat.le_of_ble_eq_true rfl) rfl fun _ => ?_
  refine WP.cond (fun hb => WP.ret ⟨(1 : Int), rfl, ?_, g0.trans g⟩) (fun hb3 => ?_)
  · rw [if_pos]
    have h0 : (v.n : Int) = 0 := iEq_t hb
    omega
  have hlen : ms.length ≠ 0 := by have := iEq_f hb3; intro e; apply this; rw [hn', e]; rfl
  rw [if_neg hlen, if_neg (Classical.not_not.2 hall)]
  refine WP.loop ms.length (fun i x s' => x = ((i : Int), ()) ∧ Grow s0 s' ∧ ∀ j, j < i → okB ms j)
    (fun z s' => Grow s0 s' ∧ ((z = .inl () ∧ ∀ j, okB ms j) ∨ (z = .inr ((2 : Int), ()) ∧ ¬ ∀ j, okB ms j))) (by omega) ⟨rfl, g, fun j hj => by omega⟩ ?_ ?_
  · rintro i x s1 hi ⟨rfl, g, hf⟩
    refine WP.field (sh := sS) (x := v) (b0 g) (Nat.le_of_ble_eq_true rfl) rfl fun _ => ?_
    refine WP.cond (fun hc => ?_) (fun hc => ?_)
    · have hi' : i < v.n := lt_nat hc
      have hil : i < ms.length := by omega
      refine WP.field (sh := sS) (x := v) (b0 g) (Nat.le_of_ble_eq_true rfl) rfl fun _ => ?_
      refine WP.elemF (sh := sI) (x := ms[i].2.1) (h.grow (g0.trans g)) hi' (Nat.le_of_ble_eq_true rfl) (by
          show unCells sI (((((ms.flatMap memC).drop (i * 3)).drop 1)).take 1) = _
          rw [flat_part memC_len ms i hil 1 1 (by omega)]; rfl) fun p q => ?_
      refine WP.cond (fun hb => WP.ret ⟨g, .inr ⟨rfl, fun hall => ?_⟩⟩) (fun hb4 => ?_)
      · have := (hall i hil).1; have := iLt_t hb; omega
      refine WP.cond (fun hb => WP.ret ⟨g, .inr ⟨rfl, fun hall => ?_⟩⟩) (fun hb5 => ?_)
      · have := (hall i hil).2; have := iLt_t hb; omega
      refine WP.ret ⟨hil, by rw [wrap_up (by omega)], g, fun j hj => by
        by_cases e : j = i
        · subst e; exact fun _ => ⟨iLt_f hb4, iLt_f hb5⟩
        · exact hf j (by omega)⟩
    · refine WP.ret ⟨g, .inl ⟨rfl, fun j hj => hf j (by have := ge_nat hc; omega) hj⟩⟩
  rintro z s1 ⟨g, ⟨rfl, hall⟩ | ⟨rfl, hnall⟩⟩
  rotate_left
  · exact WP.ret ⟨(2 : Int), rfl, by rw [if_pos hnall], g0.trans g⟩
  rw [if_neg (Classical.not_not.2 hall)]
  refine WP.ld (sh := .agg [.int .i64, .slice]) (x := (number, v, ())) (b0 g) (Nat.le_of_ble_eq_true rfl) rfl ?_
  refine WP.call (r68 lf hlf number v ms s1 hm (h.grow (g0.trans g))) (by omega) fun x s2 ⟨hx, g2⟩ => ?_
  have gg := (g0.trans g).trans g2
  have hxn : SV.n x = (ms.filter fun m => m.2.2).length := HoldM.n hx
  have hany : (ms.any fun m => m.2.2) = false ↔ SV.n x = 0 := by
    rw [hxn, List.length_eq_zero_iff, List.filter_eq_nil_iff, List.any_eq_false]
  refine WP.cond (fun hb => WP.ret ⟨(13 : Int), rfl, by rw [if_pos (hany.2 (by have h0 : ((SV.n x : Nat) : Int) = 0 := iEq_t hb; omega))], gg⟩) (fun hb => WP.ret ⟨(0 : Int), rfl, by
    rw [if_neg (fun h0 => iEq_f hb (by rw [hany.1 h0]; rfl))], gg⟩)
end Go.Proofs.YtjlhclmgjdabfaaGreat
