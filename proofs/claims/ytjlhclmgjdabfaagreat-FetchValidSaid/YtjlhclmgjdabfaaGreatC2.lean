/- Contract of view.Valid.
Conditions: none. -/
import Derived.Test.YtjlhclmgjdabfaaGreatC1
namespace Go.Proofs.YtjlhclmgjdabfaaGreat
set_option linter.unusedSimpArgs false
set_option linter.unusedSectionVars false
open Go Go.Ax
set_option linter.unusedVariables false
set_option maxRecDepth 100000

def okM (ms : List Mem) (nodes : Int) (i : Nat) : Prop := ∀ h : i < ms.length, 0 ≤ ms[i].1 ∧ ms[i].1 < nodes ∧ (0 < i → ms[i - 1].1 < ms[i].1)
def okB (ms : List Mem) (i : Nat) : Prop := ∀ h : i < ms.length, 1 ≤ ms[i].2.1 ∧ ms[i].2.1 ≤ 31
open Classical in
/-- Why a view cannot be one. -/
noncomputable def vView (number nodes : Int) (ms : List Mem) : Int :=
  if ¬ (1 ≤ nodes ∧ nodes ≤ 5) then 1 else if number < 0 ∨ 16 ≤ number then 2 else if ms.length = 0 then 1 else if ¬ (∀ i, okM ms nodes i) then 1 else
  if ¬ (∀ i, okB ms i) then 2 else if (ms.any fun m => m.2.2) = false then 13 else 0

theorem r29 (lf : Nat) (hlf : 2000 ≤ lf) (number nodes : Int) (v : SV) (ms : List Mem) (s : HS) (hm : ms.length ≤ 1100) (h : HoldM s v ms) :
    R16 lf 4 29 [.agg ⟨[vI number, .slice v.a v.n v.c]⟩, vI nodes] shI s fun x s' => x = vView number nodes ms ∧ Grow s s' := by
  refine Runs.of (fun call => d29 call lf number v nodes) (show env16.fn.get 29 = some Tryz.f29 by kernel_rfl) rfl (fun call => d29_eq call lf number v nodes) fun n hn => ?_
  have hn' := HoldM.n h
  refine WP.new ?_
  generalize hs0 : push s (bx 1 true false [vI number, Value.slice v.a v.n v.c]) = s0
  have g0 : Grow s s0 := hs0 ▸ Grow.push s _
  have hc0 : s.c < s0.c := by rw [← hs0]; exact Nat.lt_succ_self _
  have b0 : ∀ {t}, Grow s0 t → t.h.get s.c = some (bx 1 true false [vI number, Value.slice v.a v.n v.c]) := fun {t} g => by rw [g.keep _ hc0, ← hs0]; exact push_at _ _
  refine WP.call (r64 lf nodes s0) (by omega) fun x s1 ⟨hx, e⟩ => ?_
  rw [e]
  refine WP.cond (fun hb => WP.ret ⟨(1 : Int), rfl, ?_, g0⟩) (fun hb => ?_)
  · have := not_t hb
    rw [hx] at this
    unfold vView; rw [if_pos]
    rw [iLe_eq, iLe_eq] at this
    rintro ⟨h1, h2⟩; simp [h1, h2] at this
  have hnodes : 1 ≤ nodes ∧ nodes ≤ 5 := by
    have := not_f hb
    rw [hx, iLe_eq, iLe_eq] at this
    simpa using this
  refine WP.field (sh := sI) (x := number) (b0 (Grow.refl _)) (Nat.le_of_ble_eq_true rfl) rfl fun _ => ?_
  refine WP.cond (fun hb => WP.ret ⟨(2 : Int), rfl, ?_, g0⟩) (fun hb1 => ?_)
  · unfold vView; rw [if_neg (Classical.not_not.2 hnodes), if_pos (.inl (iLt_t hb))]
  refine WP.field (sh := sI) (x := number) (b0 (Grow.refl _)) (Nat.le_of_ble_eq_true rfl) rfl fun _ => ?_
  refine WP.cond (fun hb => WP.ret ⟨(2 : Int), rfl, ?_, g0⟩) (fun hb2 => ?_)
  · unfold vView; rw [if_neg (Classical.not_not.2 hnodes), if_pos (.inr (iLe_t hb))]
  have hnum : ¬ (number < 0 ∨ 16 ≤ number) := by have := iLt_f hb1; have := iLe_f hb2; omega
  refine WP.field (sh := sS) (x := v) (b0 (Grow.refl _)) (Nat.le_of_ble_eq_true rfl) rfl fun _ => ?_
  refine WP.cond (fun hb => WP.ret ⟨(1 : Int), rfl, ?_, g0⟩) (fun hb3 => ?_)
  · unfold vView; rw [if_neg (Classical.not_not.2 hnodes), if_neg hnum, if_pos]
    have h0 : (v.n : Int) = 0 := iEq_t hb
    omega
  have hlen : ms.length ≠ 0 := by have := iEq_f hb3; intro e; apply this; rw [hn', e]; rfl
  have hspec : vView number nodes ms = open Classical in if ¬ (∀ i, okM ms nodes i) then 1 else if ¬ (∀ i, okB ms i) then 2 else if (ms.any fun m => m.2.2) = false then 13 else 0 := by
    unfold vView; rw [if_neg (Classical.not_not.2 hnodes), if_neg hnum, if_neg hlen]
  rw [hspec]
  refine WP.field (sh := sS) (x := v) (b0 (Grow.refl _)) (Nat.le_of_ble_eq_true rfl) rfl fun _ => ?_
  refine WP.loop ms.length (fun i x s' => x = ((i : Int), ()) ∧ Grow s0 s' ∧ ∀ j, j < i → okM ms nodes j)
    (fun z s' => Grow s0 s' ∧ ((z = .inl () ∧ ∀ j, okM ms nodes j) ∨ (z = .inr ((1 : Int), ()) ∧ ¬ ∀ j, okM ms nodes j))) (by omega) ⟨rfl, Grow.refl _, fun j hj => by omega⟩ ?_ ?_
  · rintro i x s1 hi ⟨rfl, g, hf⟩
    refine WP.cond (fun hc => ?_) (fun hc => ?_)
    · have hi' : i < v.n := lt_nat hc
      have hil : i < ms.length := by omega
      refine WP.elem (sh := sM) (x := (ms[i].1, ms[i].2.1, ms[i].2.2, ())) ((h.grow g0).grow g) hi' rfl (by rw [flat_drop memC_len ms i hil]; rfl) fun p => ?_
      refine WP.newst rfl rfl fun s2 g2 c2 b2 => ?_
      have gg : Grow s0 s2 := g.trans g2
      refine WP.field (sh := sI) (x := ms[i].1) b2 (Nat.le_of_ble_eq_true rfl) rfl fun _ => ?_
      refine WP.cond (fun hb => WP.ret ⟨gg, .inr ⟨rfl, fun hall => ?_⟩⟩) (fun hb4 => ?_)
      · have := (hall i hil).1; have := iLt_t hb; omega
      refine WP.field (sh := sI) (x := ms[i].1) b2 (Nat.le_of_ble_eq_true rfl) rfl fun _ => ?_
      refine WP.cond (fun hb => WP.ret ⟨gg, .inr ⟨rfl, fun hall => ?_⟩⟩) (fun hb5 => ?_)
      · have := (hall i hil).2.1; have := iLe_t hb; omega
      have next : (0 < i → ms[i - 1].1 < ms[i].1) → ∀ j, j < i + 1 → okM ms nodes j := fun hord j hj => by
        by_cases e : j = i
        · subst e; exact fun _ => ⟨iLt_f hb4, iLe_f hb5, hord⟩
        · exact hf j (by omega)
      refine WP.cond (fun hb => ?_) (fun hb => WP.ret ⟨hil, by rw [wrap_up (by omega)], gg, next fun hpos => ?_⟩)
      · have hpos : 0 < i := by have := iLt_t hb; exact Int.ofNat_lt.1 this
        refine WP.field (sh := sI) (x := ms[i].1) b2 (Nat.le_of_ble_eq_true rfl) rfl fun _ => ?_
        refine WP.field (sh := sS) (x := v) (b0 gg) (Nat.le_of_ble_eq_true rfl) rfl fun _ => ?_
        obtain ⟨j, hj⟩ : ∃ j, i = j + 1 := ⟨i - 1, by omega⟩
        rw [show wrapK IntKind.i64 (Int.sub (i : Int) 1) = ((j : Nat) : Int) by subst hj; exact wrap_down (by omega)]
        refine WP.elemF (sh := sI) (x := ms[j].1) (h.grow (g0.trans gg)) (by omega) (Nat.le_of_ble_eq_true rfl) (by
          show unCells sI (((((ms.flatMap memC).drop (j * 3)).drop 0)).take 1) = _
          rw [flat_part memC_len ms j (by omega) 0 1 (by omega)]; rfl) fun p q => ?_
        have hj' : i - 1 = j := by omega
        refine WP.cond (fun hb6 => WP.ret ⟨gg, .inr ⟨rfl, fun hall => ?_⟩⟩) (fun hb6 => WP.ret ⟨hil, by rw [wrap_up (by omega)], gg, next fun _ => ?_⟩)
        · have h1 := (hall i hil).2.2 hpos; have h2 := iLe_t hb6; simp only [hj'] at h1; omega
        · have h2 := iLe_f hb6; simp only [hj']; exact h2
      · have := iLt_f hb; omega
    · refine WP.ret ⟨g, .inl ⟨rfl, fun j hj => hf j (by have := ge_nat hc; omega) hj⟩⟩
  rintro z s1 ⟨g, ⟨rfl, hall⟩ | ⟨rfl, hnall⟩⟩
  rotate_left
  · exact WP.ret ⟨(1 : Int), rfl, by rw [if_pos hnall], g0.trans g⟩
  rw [if_neg (Classical.not_not.2 hall)]
  refine WP.field (sh := sS) (x := v) (b0 g) (Nat.le_of_ble_eq_true rfl) rfl fun _ => ?_
  refine WP.loop ms.length (fun i x s' => x = ((i : Int), ()) ∧ Grow s0 s' ∧ ∀ j, j < i → okB ms j)
    (fun z s' => Grow s0 s' ∧ ((z = .inl () ∧ ∀ j, okB ms j) ∨ (z = .inr ((2 : Int), ()) ∧ ¬ ∀ j, okB ms j))) (by omega) ⟨rfl, g, fun j hj => by omega⟩ ?_ ?_
  · rintro i x s1 hi ⟨rfl, g, hf⟩
    refine WP.cond (fun hc => ?_) (fun hc => ?_)
    · have hi' : i < v.n := lt_nat hc
      have hil : i < ms.length := by omega
      refine WP.elem (sh := sM) (x := (ms[i].1, ms[i].2.1, ms[i].2.2, ())) ((h.grow g0).grow g) hi' rfl (by rw [flat_drop memC_len ms i hil]; rfl) fun p => ?_
      refine WP.newst rfl rfl fun s2 g2 c2 b2 => ?_
      have gg : Grow s0 s2 := g.trans g2
      refine WP.field (sh := sI) (x := ms[i].2.1) b2 (Nat.le_of_ble_eq_true rfl) rfl fun _ => ?_
      refine WP.cond (fun hb => WP.ret ⟨gg, .inr ⟨rfl, fun hall => ?_⟩⟩) (fun hb4 => ?_)
      · have := (hall i hil).1; have := iLt_t hb; omega
      refine WP.field (sh := sI) (x := ms[i].2.1) b2 (Nat.le_of_ble_eq_true rfl) rfl fun _ => ?_
      refine WP.cond (fun hb => WP.ret ⟨gg, .inr ⟨rfl, fun hall => ?_⟩⟩) (fun hb5 => ?_)
      · have := (hall i hil).2; have := iLt_t hb; omega
      refine WP.ret ⟨hil, by rw [wrap_up (by omega)], gg, fun j hj => by
        by_cases e : j = i
        · subst e; exact fun _ => ⟨iLt_f hb4, iLt_f hb5⟩
        · exact hf j (by omega)⟩
    · refine WP.ret ⟨g, .inl ⟨rfl, fun j hj => hf j (by have := ge_nat hc; omega) hj⟩⟩
  rintro z s1 ⟨g, ⟨rfl, hall⟩ | ⟨rfl, hnall⟩⟩
  rotate_left
  · exact WP.ret ⟨(2 : Int), rfl, by rw [if_pos hnall], g0.trans g⟩
  rw [if_neg (Classical.not_not.2 hall)]
  refine WP.field (sh := sS) (x := v) (b0 g) (Nat.le_of_ble_eq_true rfl) rfl fun _ => ?_
  refine WP.call (r65 lf hlf v ms s1 hm (h.grow (g0.trans g))) (by omega) fun x s2 ⟨hx, g2⟩ => ?_
  have gg := (g0.trans g).trans g2
  refine WP.cond (fun hb => WP.ret ⟨(13 : Int), rfl, by rw [if_pos (by rw [← hx]; exact not_t hb)], gg⟩) (fun hb => WP.ret ⟨(0 : Int), rfl, by rw [if_neg (by rw [← hx, not_f hb]; decide)], gg⟩)
end Go.Proofs.YtjlhclmgjdabfaaGreat
