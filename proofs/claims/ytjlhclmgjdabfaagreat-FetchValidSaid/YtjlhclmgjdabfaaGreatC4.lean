/- Contracts of fetch.Valid and of the reference's.
Conditions: none. -/
import Derived.Test.YtjlhclmgjdabfaaGreatC3
namespace Go.Proofs.YtjlhclmgjdabfaaGreat
set_option linter.unusedSimpArgs false
set_option linter.unusedSectionVars false
open Go Go.Ax
set_option linter.unusedVariables false
set_option maxRecDepth 100000

def okH (total : Int) (zs : List Int) (i : Nat) : Prop := ∀ h : i < zs.length, ((iLe 98 total && iLe total 256) && (iLe 96 zs[i] && iLt zs[i] total)) = true
def okA (zs : List Int) (i : Nat) : Prop := ∀ h : i < zs.length, 0 < i → zs[i - 1] < zs[i]
open Classical in
/-- Why a fetch cannot be done. -/
noncomputable def vFetch (total number : Int) (ms : List Mem) (zs : List Int) : Int :=
  if vView number 5 ms ≠ 0 then vView number 5 ms else if total < 98 ∨ 256 < total ∨ 1024 < zs.length then 18 else
  if ¬ (∀ i, okH total zs i) then 2 else if ¬ (∀ i, okA zs i) then 1 else 0

theorem ints_drop (zs : List Int) (i : Nat) (hi : i < zs.length) : ((zs.map vI).drop (i * 1)).take 1 = [vI zs[i]] := by
  rw [Nat.mul_one, List.drop_eq_getElem_cons (by simpa using hi)]
  simp

theorem r10 (lf : Nat) (hlf : 2000 ≤ lf) (total number : Int) (v u : SV) (ms : List Mem) (zs : List Int) (s : HS) (hm : ms.length ≤ 1100) (hz : zs.length ≤ 1100) (h : HoldM s v ms) (hu : HoldI s u zs) :
    R16 lf 3 10 [vI total, .agg ⟨[vI number, .slice v.a v.n v.c]⟩, .slice u.a u.n u.c] shI s fun x s' => x = vFetch total number ms zs ∧ Grow s s' := by
  refine Runs.of (fun call => d10 call lf total number v u) (show env16.fn.get 10 = some Tryz.f10 by kernel_rfl) rfl (fun call => d10_eq call lf total number v u) fun n hn => ?_
  have hn' := HoldM.n h
  have hun := HoldI.n hu
  refine WP.new ?_
  generalize hs0 : push s (bx 1 true false [vI number, Value.slice v.a v.n v.c]) = s0
  have g0 : Grow s s0 := hs0 ▸ Grow.push s _
  refine WP.ld (sh := .agg [.int .i64, .slice]) (x := (number, v, ())) (by rw [← hs0]; exact push_at _ _) (Nat.le_of_ble_eq_true rfl) rfl ?_
  refine WP.call (r31 lf hlf number 5 v ms s0 hm (h.grow g0)) (by omega) fun x s1 ⟨hx, g1⟩ => ?_
  have g := g0.trans g1
  refine WP.cond (fun hb => WP.ret ⟨x, rfl, ?_, g⟩) (fun hb => ?_)
  · have := iEq_f (not_t hb)
    unfold vFetch; rw [if_pos (by rw [← hx]; exact this)]; exact hx
  have hv : ¬ (vView number 5 ms ≠ 0) := by rw [← hx]; exact Classical.not_not.2 (iEq_t (not_f hb))
  refine WP.cond (fun hb => WP.ret ⟨(18 : Int), rfl, ?_, g⟩) (fun hb1 => ?_)
  · unfold vFetch; rw [if_neg hv, if_pos (.inl (iLt_t hb))]
  refine WP.cond (fun hb => WP.ret ⟨(18 : Int), rfl, ?_, g⟩) (fun hb2 => ?_)
  · unfold vFetch; rw [if_neg hv, if_pos (.inr (.inl (iLt_t hb)))]
  refine WP.cond (fun hb => WP.ret ⟨(18 : Int), rfl, ?_, g⟩) (fun hb3 => ?_)
  · unfold vFetch; rw [if_neg hv, if_pos (.inr (.inr (by have h0 : (1024 : Int) < (u.n : Int) := iLt_t hb; omega)))]
  have hlim : ¬ (total < 98 ∨ 256 < total ∨ 1024 < zs.length) := by
    have h1 := iLt_f hb1; have h2 := iLt_f hb2
    have h3 : (u.n : Int) ≤ 1024 := iLt_f hb3
    omega
  have hspec : vFetch total number ms zs = open Classical in if ¬ (∀ i, okH total zs i) then 2 else if ¬ (∀ i, okA zs i) then 1 else 0 := by
    unfold vFetch; rw [if_neg hv, if_neg hlim]
  rw [hspec]
  refine WP.loop zs.length (fun i x s' => x = ((i : Int), ()) ∧ s' = s1 ∧ ∀ j, j < i → okH total zs j)
    (fun z s' => s' = s1 ∧ ((z = .inl () ∧ ∀ j, okH total zs j) ∨ (z = .inr ((2 : Int), ()) ∧ ¬ ∀ j, okH total zs j))) (by omega) ⟨rfl, rfl, fun j hj => by omega⟩ ?_ ?_
  · rintro i x s2 hi ⟨rfl, e, hf⟩
    rw [e]
    refine WP.cond (fun hc => ?_) (fun hc => WP.ret ⟨rfl, .inl ⟨rfl, fun j hj => hf j (by have := ge_nat hc; omega) hj⟩⟩)
    have hi' : i < u.n := lt_nat hc
    have hil : i < zs.length := by omega
    refine WP.elem (sh := sI) (x := zs[i]) (hu.grow g) hi' rfl (by rw [ints_drop zs i hil]; rfl) fun p => ?_
    refine WP.call (r32 lf zs[i] total s1) (by omega) fun y s3 ⟨hy, e3⟩ => ?_
    rw [e3]
    refine WP.cond (fun hb => WP.ret ⟨rfl, .inr ⟨rfl, fun hall => ?_⟩⟩) (fun hb => WP.ret ⟨hil, by rw [wrap_up (by omega)], rfl, fun j hj => ?_⟩)
    · have h1 := hall i hil
      rw [← hy] at h1
      rw [not_t hb] at h1
      cases h1
    · by_cases e : j = i
      · subst e
        intro _
        rw [← hy]; exact not_f hb
      · exact hf j (by omega)
  rintro z s2 ⟨e, ⟨rfl, hall⟩ | ⟨rfl, hnall⟩⟩
  rotate_left
  · rw [e]; exact WP.ret ⟨(2 : Int), rfl, by rw [if_pos hnall], g⟩
  rw [e, if_neg (Classical.not_not.2 hall)]
  refine WP.loop zs.length (fun i x s' => x = (((i + 1 : Nat) : Int), ()) ∧ s' = s1 ∧ ∀ j, j < i + 1 → okA zs j)
    (fun z s' => s' = s1 ∧ ((z = .inl () ∧ ∀ j, okA zs j) ∨ (z = .inr ((1 : Int), ()) ∧ ¬ ∀ j, okA zs j))) (by omega) ⟨rfl, rfl, fun j hj _ h0 => by omega⟩ ?_ ?_
  · rintro i x s2 hi ⟨rfl, e, hf⟩
    rw [e]
    refine WP.cond (fun hc => ?_) (fun hc => WP.ret ⟨rfl, .inl ⟨rfl, fun j hj => hf j (by have := ge_nat hc; omega) hj⟩⟩)
    have hi' : i + 1 < u.n := lt_nat hc
    have hil : i + 1 < zs.length := by omega
    rw [show wrapK IntKind.i64 (Int.sub (((i + 1 : Nat) : Int), ()).1 1) = ((i : Nat) : Int) from wrap_down (by omega)]
    refine WP.elem (sh := sI) (x := zs[i]) (hu.grow g) (by omega) rfl (by rw [ints_drop zs i (by omega)]; rfl) fun p => ?_
    refine WP.elem (sh := sI) (x := zs[i + 1]) (hu.grow g) hi' rfl (by rw [ints_drop zs (i + 1) hil]; rfl) fun p => ?_
    refine WP.cond (fun hb => WP.ret ⟨rfl, .inr ⟨rfl, fun hall => ?_⟩⟩) (fun hb => WP.ret ⟨by omega, by rw [wrap_up (by omega)], rfl, fun j hj => ?_⟩)
    · have h1 : zs[i] < zs[i + 1] := hall (i + 1) hil (by omega)
      have h2 := iLe_t hb
      omega
    · by_cases e : j = i + 1
      · subst e
        exact fun _ _ => iLe_f hb
      · exact hf j (by omega)
  rintro z s2 ⟨e, ⟨rfl, hall⟩ | ⟨rfl, hnall⟩⟩
  · rw [e]; exact WP.ret ⟨(0 : Int), rfl, by rw [if_neg (Classical.not_not.2 hall)], g⟩
  · rw [e]; exact WP.ret ⟨(1 : Int), rfl, by rw [if_pos hnall], g⟩

theorem r9 (lf : Nat) (hlf : 2000 ≤ lf) (total number : Int) (v u : SV) (ms : List Mem) (zs : List Int) (s : HS) (hm : ms.length ≤ 1100) (hz : zs.length ≤ 1100) (h : HoldM s v ms) (hu : HoldI s u zs) :
    R16 lf 5 9 [.agg ⟨[vI total, vI number, .slice v.a v.n v.c, .slice u.a u.n u.c]⟩] shI s fun x s' => x = vFetch total number ms zs ∧ Grow s s' := by
  refine Runs.of (fun call => d9 call lf total number v u) (show env16.fn.get 9 = some Tryz.f9 by kernel_rfl) rfl (fun call => d9_eq call lf total number v u) fun n hn => ?_
  have hn' := HoldM.n h
  have hun := HoldI.n hu
  refine WP.new ?_
  generalize hs0 : push s (bx 1 true false [vI total, vI number, Value.slice v.a v.n v.c, Value.slice u.a u.n u.c]) = s0
  have g0 : Grow s s0 := hs0 ▸ Grow.push s _
  have hc0 : s.c < s0.c := by rw [← hs0]; exact Nat.lt_succ_self _
  have b0 : ∀ {t}, Grow s0 t → t.h.get s.c = some (bx 1 true false [vI total, vI number, Value.slice v.a v.n v.c, Value.slice u.a u.n u.c]) := fun {t} g => by rw [g.keep _ hc0, ← hs0]; exact push_at _ _
  refine WP.field (sh := .agg [.int .i64, .slice]) (x := (number, v, ())) (b0 (Grow.refl _)) (Nat.le_of_ble_eq_true rfl) rfl fun _ => ?_
  refine WP.call (r29 lf hlf number 5 v ms s0 hm (h.grow g0)) (by omega) fun x s1 ⟨hx, g1⟩ => ?_
  have g := g0.trans g1
  refine WP.cond (fun hb => WP.ret ⟨x, rfl, ?_, g⟩) (fun hb => ?_)
  · have := iEq_f (not_t hb)
    unfold vFetch; rw [if_pos (by rw [← hx]; exact this)]; exact hx
  have hv : ¬ (vView number 5 ms ≠ 0) := by rw [← hx]; exact Classical.not_not.2 (iEq_t (not_f hb))
  refine WP.field (sh := sI) (x := total) (b0 g1) (Nat.le_of_ble_eq_true rfl) rfl fun _ => ?_
  refine WP.cond (fun hb => WP.ret ⟨(18 : Int), rfl, ?_, g⟩) (fun hb1 => ?_)
  · unfold vFetch; rw [if_neg hv, if_pos (.inl (iLt_t hb))]
  refine WP.field (sh := sI) (x := total) (b0 g1) (Nat.le_of_ble_eq_true rfl) rfl fun _ => ?_
  refine WP.cond (fun hb => WP.ret ⟨(18 : Int), rfl, ?_, g⟩) (fun hb2 => ?_)
  · unfold vFetch; rw [if_neg hv, if_pos (.inr (.inl (iLt_t hb)))]
  refine WP.field (sh := sS) (x := u) (b0 g1) (Nat.le_of_ble_eq_true rfl) rfl fun _ => ?_
  refine WP.cond (fun hb => WP.ret ⟨(18 : Int), rfl, ?_, g⟩) (fun hb3 => ?_)
  · unfold vFetch; rw [if_neg hv, if_pos (.inr (.inr (by have h0 : (1024 : Int) < (u.n : Int) := iLt_t hb; omega)))]
  have hlim : ¬ (total < 98 ∨ 256 < total ∨ 1024 < zs.length) := by
    have h1 := iLt_f hb1; have h2 := iLt_f hb2
    have h3 : (u.n : Int) ≤ 1024 := iLt_f hb3
    omega
  have hspec : vFetch total number ms zs = open Classical in if ¬ (∀ i, okH total zs i) then 2 else if ¬ (∀ i, okA zs i) then 1 else 0 := by
    unfold vFetch; rw [if_neg hv, if_neg hlim]
  rw [hspec]
  refine WP.field (sh := sS) (x := u) (b0 g1) (Nat.le_of_ble_eq_true rfl) rfl fun _ => ?_
  refine WP.loop zs.length (fun i x s' => x = ((i : Int), ()) ∧ s' = s1 ∧ ∀ j, j < i → okH total zs j)
    (fun z s' => s' = s1 ∧ ((z = .inl () ∧ ∀ j, okH total zs j) ∨ (z = .inr ((2 : Int), ()) ∧ ¬ ∀ j, okH total zs j))) (by omega) ⟨rfl, rfl, fun j hj => by omega⟩ ?_ ?_
  · rintro i x s2 hi ⟨rfl, e, hf⟩
    rw [e]
    refine WP.cond (fun hc => ?_) (fun hc => WP.ret ⟨rfl, .inl ⟨rfl, fun j hj => hf j (by have := ge_nat hc; omega) hj⟩⟩)
    have hi' : i < u.n := lt_nat hc
    have hil : i < zs.length := by omega
    refine WP.elem (sh := sI) (x := zs[i]) (hu.grow g) hi' rfl (by rw [ints_drop zs i hil]; rfl) fun p => ?_
    refine WP.field (sh := sI) (x := total) (b0 g1) (Nat.le_of_ble_eq_true rfl) rfl fun _ => ?_
    refine WP.call (r30 lf zs[i] total s1) (by omega) fun y s3 ⟨hy, e3⟩ => ?_
    rw [e3]
    refine WP.cond (fun hb => WP.ret ⟨rfl, .inr ⟨rfl, fun hall => ?_⟩⟩) (fun hb => WP.ret ⟨hil, by rw [wrap_up (by omega)], rfl, fun j hj => ?_⟩)
    · have h1 := hall i hil
      rw [← hy] at h1
      rw [not_t hb] at h1
      cases h1
    · by_cases e : j = i
      · subst e
        intro _
        rw [← hy]; exact not_f hb
      · exact hf j (by omega)
  rintro z s2 ⟨e, ⟨rfl, hall⟩ | ⟨rfl, hnall⟩⟩
  rotate_left
  · rw [e]; exact WP.ret ⟨(2 : Int), rfl, by rw [if_pos hnall], g⟩
  rw [e, if_neg (Classical.not_not.2 hall)]
  refine WP.field (sh := sS) (x := u) (b0 g1) (Nat.le_of_ble_eq_true rfl) rfl fun _ => ?_
  refine WP.loop zs.length (fun i x s' => x = ((i : Int), ()) ∧ s' = s1 ∧ ∀ j, j < i → okA zs j)
    (fun z s' => s' = s1 ∧ ((z = .inl () ∧ ∀ j, okA zs j) ∨ (z = .inr ((1 : Int), ()) ∧ ¬ ∀ j, okA zs j))) (by omega) ⟨rfl, rfl, fun j hj => by omega⟩ ?_ ?_
  · rintro i x s2 hi ⟨rfl, e, hf⟩
    rw [e]
    refine WP.cond (fun hc => ?_) (fun hc => WP.ret ⟨rfl, .inl ⟨rfl, fun j hj => hf j (by have := ge_nat hc; omega) hj⟩⟩)
    have hi' : i < u.n := lt_nat hc
    have hil : i < zs.length := by omega
    refine WP.elem (sh := sI) (x := zs[i]) (hu.grow g) hi' rfl (by rw [ints_drop zs i hil]; rfl) fun p => ?_
    refine WP.cond (fun hb => ?_) (fun hb => WP.ret ⟨hil, by rw [wrap_up (by omega)], rfl, fun j hj => ?_⟩)
    · have hpos : 0 < i := by have := iLt_t hb; exact Int.ofNat_lt.1 this
      refine WP.field (sh := sS) (x := u) (b0 g1) (Nat.le_of_ble_eq_true rfl) rfl fun _ => ?_
      obtain ⟨j, hj⟩ : ∃ j, i = j + 1 := ⟨i - 1, by omega⟩
      subst hj
      rw [show wrapK IntKind.i64 (Int.sub (((j + 1 : Nat) : Int), ()).1 1) = ((j : Nat) : Int) from wrap_down (by omega)]
      refine WP.elem (sh := sI) (x := zs[j]) (hu.grow g) (by omega) rfl (by rw [ints_drop zs j (by omega)]; rfl) fun p => ?_
      refine WP.cond (fun hb => WP.ret ⟨rfl, .inr ⟨rfl, fun hall => ?_⟩⟩) (fun hb => WP.ret ⟨hil, by rw [wrap_up (by omega)], rfl, fun k hk => ?_⟩)
      · have h1 : zs[j] < zs[j + 1] := hall (j + 1) hil (by omega)
        have h2 := iLe_t hb
        omega
      · by_cases e : k = j + 1
        · subst e
          exact fun _ _ => iLe_f hb
        · exact hf k (by omega)
    · by_cases e : j = i
      · subst e
        intro _ h0
        have h1 : ((j : Nat) : Int) ≤ 0 := iLt_f hb
        omega
      · exact hf j (by omega)
  rintro z s2 ⟨e, ⟨rfl, hall⟩ | ⟨rfl, hnall⟩⟩
  · rw [e]; exact WP.ret ⟨(0 : Int), rfl, by rw [if_neg (Classical.not_not.2 hall)], g⟩
  · rw [e]; exact WP.ret ⟨(1 : Int), rfl, by rw [if_pos hnall], g⟩
end Go.Proofs.YtjlhclmgjdabfaaGreat
