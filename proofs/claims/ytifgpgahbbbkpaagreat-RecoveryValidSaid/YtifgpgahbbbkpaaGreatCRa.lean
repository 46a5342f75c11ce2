/- A member's cells.
Conditions: none. -/
import Derived.Test.YtifgpgahbbbkpaaGreatA13
import Derived.Test.YtifgpgahbbbkpaaGreatAxMa
import Derived.Test.YtifgpgahbbbkpaaGreatDX0
import Derived.Test.YtifgpgahbbbkpaaGreatEV13
import Derived.Test.YtifgpgahbbbkpaaGreatW13
namespace Go.Proofs.YtifgpgahbbbkpaaGreat
set_option linter.unusedVariables false
set_option linter.unusedSimpArgs false
set_option linter.unusedSectionVars false
open Go Go.Ax
/-- A member's cells. -/
def memC (m : Int × Int × Bool) : List Value := [.int .i64 m.1, .int .i64 m.2.1, .bool m.2.2]
end Go.Proofs.YtifgpgahbbbkpaaGreat

/- Contracts of the functions that look at views and jobs.
Conditions: none. -/
namespace Go.Proofs.YtifgpgahbbbkpaaGreat
set_option linter.unusedSimpArgs false
set_option linter.unusedSectionVars false
open Go Go.Ax
set_option linter.unusedVariables false
set_option maxRecDepth 100000

abbrev R13 (lf d f : Nat) (args : List Value) (sh : S3) (s : HS) (Q : sh.Sem → HS → Prop) : Prop := Runs env13 lf tbl13 d f args sh s Q
abbrev shI : S3 := .v (.one (.int .i64))
abbrev shB : S3 := .v (.one .bool)
abbrev sM : S2 := .agg [.int .i64, .int .i64, .bool]

theorem r95 (lf : Nat) (a : Int) (s : HS) : R13 lf 1 95 [vI a] shB s fun x s' => x = (iLe 1 a && iLe a 5) ∧ s' = s := by
  refine Runs.of (fun call => d95 call lf a) (show env13.fn.get 95 = some Tryz.f95 by kernel_rfl) rfl (fun call => d95_eq call lf a) fun n hn => ?_
  refine WP.cond (fun h => ?_) (fun h => ?_)
  · exact WP.ret ⟨_, rfl, by rw [h]; rfl, rfl⟩
  · exact WP.ret ⟨false, rfl, by rw [h]; rfl, rfl⟩
theorem r97 (lf : Nat) (a b : Int) (c : Bool) (s : HS) : R13 lf 1 97 [.agg ⟨[vI a, vI b, .bool c]⟩] shB s fun x s' => x = c ∧ Grow s s' := by
  refine Runs.of (fun call => d97 call lf a b c) (show env13.fn.get 97 = some Tryz.f97 by kernel_rfl) rfl (fun call => d97_eq call lf a b c) fun n hn => ?_
  refine WP.new (WP.fld (WP.ld (push_at _ _) (Nat.le_of_ble_eq_true rfl) rfl ?_))
  exact WP.ret ⟨c, rfl, rfl, Grow.push _ _⟩

/-- A member. -/
abbrev Mem := Int × Int × Bool
theorem memC_len (m : Mem) : (memC m).length = 3 := rfl
abbrev HoldM (s : HS) (v : SV) (ms : List Mem) : Prop := Hold s v 3 (ms.flatMap memC)
abbrev HoldI (s : HS) (v : SV) (zs : List Int) : Prop := Hold s v 1 (zs.map vI)
theorem HoldM.n {s : HS} {v : SV} {ms : List Mem} (h : HoldM s v ms) : v.n = ms.length := by
  have := h.len
  rw [flat_len memC_len] at this
  omega
theorem HoldI.n {s : HS} {v : SV} {zs : List Int} (h : HoldI s v zs) : v.n = zs.length := by
  have := h.len
  rw [List.length_map] at this
  omega

/-- The first member that is full. -/
theorem r150 (lf : Nat) (hlf : 2000 ≤ lf) (v : SV) (ms : List Mem) (s : HS) (hm : ms.length ≤ 1100) (h : HoldM s v ms) :
    R13 lf 2 150 [.slice v.a v.n v.c, .func (.func 97) ⟨[]⟩ ⟨[]⟩] shI s fun x s' => (iLe 0 x = ms.any fun m => m.2.2) ∧ Grow s s' := by
  refine Runs.of (fun call => d150 call lf v (.func (.func 97) ⟨[]⟩ ⟨[]⟩)) (show env13.fn.get 150 = some Tryz.f150 by kernel_rfl) rfl (fun call => d150_eq call lf v _) fun n hn => ?_
  have hn' := HoldM.n h
  refine WP.loop ms.length (fun i x s' => x = ((i : Int), ()) ∧ Grow s s' ∧ ∀ j (hj : j < ms.length), j < i → ms[j].2.2 = false)
    (fun z s' => Grow s s' ∧ ((z = .inl () ∧ ms.any (fun m => m.2.2) = false) ∨ ∃ i : Nat, z = .inr ((i : Int), ()) ∧ ms.any (fun m => m.2.2) = true)) (by omega) ⟨rfl, Grow.refl s, fun j _ hj => by omega⟩ ?_ ?_
  · rintro i x s1 hi ⟨rfl, g, hf⟩
    refine WP.cond (fun hc => ?_) (fun hc => ?_)
    · have hi' : i < v.n := by rw [iLt_eq] at hc; have := of_decide_eq_true hc; exact Int.ofNat_lt.1 this
      have hil : i < ms.length := by omega
      refine WP.elem (sh := sM) (x := (ms[i].1, ms[i].2.1, ms[i].2.2, ())) (h.grow g) hi' rfl (by rw [flat_drop memC_len ms i hil]; rfl) fun p => ?_
      refine WP.call (r97 lf ms[i].1 ms[i].2.1 ms[i].2.2 s1) (by omega) fun b s2 ⟨hb, g2⟩ => ?_
      subst hb
      refine WP.cond (fun hb => WP.ret ⟨g.trans g2, .inr ⟨i, rfl, ?_⟩⟩) (fun hb => WP.ret ⟨by omega, ?_, g.trans g2, ?_⟩)
      · exact List.any_eq_true.2 ⟨ms[i], List.getElem_mem hil, hb⟩
      · rw [wrap_up (by omega)]
      · intro j hj hji
        by_cases e : j = i
        · subst e; exact hb
        · exact hf j hj (by omega)
    · refine WP.ret ⟨g, .inl ⟨rfl, ?_⟩⟩
      have hi' : i = ms.length := by rw [iLt_eq] at hc; have := of_decide_eq_false hc; have := mt Int.ofNat_lt.2 this; omega
      rw [List.any_eq_false]
      intro m hmem
      obtain ⟨j, hj, rfl⟩ := List.getElem_of_mem hmem
      rw [hf j hj (by omega)]; decide
  · rintro z s1 ⟨g, ⟨rfl, ha⟩ | ⟨i, rfl, ha⟩⟩
    · exact WP.ret ⟨(-1 : Int), rfl, by rw [ha]; rfl, g⟩
    · exact WP.ret ⟨(i : Int), rfl, by rw [ha]; rfl, g⟩
theorem r96 (lf : Nat) (hlf : 2000 ≤ lf) (v : SV) (ms : List Mem) (s : HS) (hm : ms.length ≤ 1100) (h : HoldM s v ms) :
    R13 lf 3 96 [.slice v.a v.n v.c, .func (.func 97) ⟨[]⟩ ⟨[]⟩] shB s fun x s' => x = (ms.any fun m => m.2.2) ∧ Grow s s' := by
  refine Runs.of (fun call => d96 call lf v (.func (.func 97) ⟨[]⟩ ⟨[]⟩)) (show env13.fn.get 96 = some Tryz.f96 by kernel_rfl) rfl (fun call => d96_eq call lf v _) fun n hn => ?_
  refine WP.call (r150 lf hlf v ms s hm h) hn fun x s1 ⟨hx, g⟩ => ?_
  exact WP.ret ⟨_, rfl, hx, g⟩
end Go.Proofs.YtifgpgahbbbkpaaGreat

/- Contract of view.Valid.
Conditions: none. -/
namespace Go.Proofs.YtifgpgahbbbkpaaGreat
set_option linter.unusedSimpArgs false
set_option linter.unusedSectionVars false
open Go Go.Ax
set_option linter.unusedVariables false
set_option maxRecDepth 100000

def okM (ms : List Mem) (nodes : Int) (i : Nat) : Prop := ∀ h : i < ms.length, 0 ≤ ms[i].1 ∧ ms[i].1 < nodes ∧ (0 < i → ms[i - 1].1 < ms[i].1)
def okB (ms : List Mem) (i : Nat) : Prop := ∀ h : i < ms.length, 1 ≤ ms[i].2.1 ∧ ms[i].2.1 ≤ 31
open Classical in
/-- Why a view cannot be one. -/
noncomputable def vView (number nodes : Int) (ms : List Mem) : Int :=
  if ¬ (1 ≤ nodes ∧ nodes ≤ 5) then 1 else if number < 0 ∨ 16 ≤ number then 2 else if ms.length = 0 then 1 else if ¬ (∀ i, okM ms nodes i) then 1 else
  if ¬ (∀ i, okB ms i) then 2 else if (ms.any fun m => m.2.2) = false then 13 else 0

theorem r49 (lf : Nat) (hlf : 2000 ≤ lf) (number nodes : Int) (v : SV) (ms : List Mem) (s : HS) (hm : ms.length ≤ 1100) (h : HoldM s v ms) :
    R13 lf 4 49 [.agg ⟨[vI number, .slice v.a v.n v.c]⟩, vI nodes] shI s fun x s' => x = vView number nodes ms ∧ Grow s s' := by
  refine Runs.of (fun call => d49 call lf number v nodes) (show env13.fn.get 49 = some Tryz.f49 by kernel_rfl) rfl (fun call => d49_eq call lf number v nodes) fun n hn => ?_
  have hn' := HoldM.n h
  refine WP.new ?_
  generalize hs0 : push s (bx 1 true false [vI number, slV v]) = s0
  have g0 : Grow s s0 := hs0 ▸ Grow.push s _
  have hc0 : s.c < s0.c := by rw [← hs0]; exact Nat.lt_succ_self _
  have b0 : ∀ {t}, Grow s0 t → t.h.get s.c = some (bx 1 true false [vI number, Value.slice v.a v.n v.c]) := fun {t} g => by rw [g.keep _ hc0, ← hs0]; exact push_at _ _
  refine WP.call (r95 lf nodes s0) (by omega) fun x s1 ⟨hx, e⟩ => ?_
  rw [e]
  refine WP.cond (fun hb => WP.ret ⟨(1 : Int), rfl, ?_, g0⟩) (fun hb => ?_)
  · have := not_t hb
    rw [hx] at this
    unfold vView; rw [if_pos]
    rw [iLe_eq, iLe_eq] at this
    rintro ⟨h1, h2⟩; simp [h1, h2] at this
  have hnodes : 1 ≤ nodes ∧ nodes ≤ 5 := by
    have := not_f hb
    rw [hx, iLe_eq, iLe_eq] at this
    simpa using this
  refine WP.field (sh := sI) (x := number) (b0 (Grow.refl _)) (Nat.le_of_ble_eq_true rfl) rfl fun _ => ?_
  refine WP.cond (fun hb => WP.ret ⟨(2 : Int), rfl, ?_, g0⟩) (fun hb1 => ?_)
  · unfold vView; rw [if_neg (Classical.not_not.2 hnodes), if_pos (.inl (iLt_t hb))]
  refine WP.field (sh := sI) (x := number) (b0 (Grow.refl _)) (Nat.le_of_ble_eq_true rfl) rfl fun _ => ?_
  refine WP.cond (fun hb => WP.ret ⟨(2 : Int), rfl, ?_, g0⟩) (fun hb2 => ?_)
  · unfold vView; rw [if_neg (Classical.not_not.2 hnodes), if_pos (.inr (iLe_t hb))]
  have hnum : ¬ (number < 0 ∨ 16 ≤ number) := by have := iLt_f hb1; have := iLe_f hb2; omega
  refine WP.field (sh := sS) (x := v) (b0 (Grow.refl _)) (Nat.le_of_ble_eq_true rfl) rfl fun _ => ?_
  refine WP.cond (fun hb => WP.ret ⟨(1 : Int), rfl, ?_, g0⟩) (fun hb3 => ?_)
  · unfold vView; rw [if_neg (Classical.not_not.2 hnodes), if_neg hnum, if_pos]
    have h0 : (v.n : Int) = 0 := iEq_t hb
    omega
  have hlen : ms.length ≠ 0 := by have := iEq_f hb3; intro e; apply this; rw [hn', e]; rfl
  have hspec : vView number nodes ms = open Classical in if ¬ (∀ i, okM ms nodes i) then 1 else if ¬ (∀ i, okB ms i) then 2 else if (ms.any fun m => m.2.2) = false then 13 else 0 := by
    unfold vView; rw [if_neg (Classical.not_not.2 hnodes), if_neg hnum, if_neg hlen]
  rw [hspec]
  refine WP.field (sh := sS) (x := v) (b0 (Grow.refl _)) (Nat.le_of_ble_eq_true rfl) rfl fun _ => ?_
  refine WP.loop ms.length (fun i x s' => x = ((i : Int), ()) ∧ Grow s0 s' ∧ ∀ j, j < i → okM ms nodes j)
    (fun z s' => Grow s0 s' ∧ ((z = .inl () ∧ ∀ j, okM ms nodes j) ∨ (z = .inr ((1 : Int), ()) ∧ ¬ ∀ j, okM ms nodes j))) (by omega) ⟨rfl, Grow.refl _, fun j hj => by omega⟩ ?_ ?_
  · rintro i x s1 hi ⟨rfl, g, hf⟩
    refine WP.cond (fun hc => ?_) (fun hc => ?_)
    · have hi' : i < v.n := lt_nat hc
      have hil : i < ms.length := by omega
      refine WP.elem (sh := sM) (x := (ms[i].1, ms[i].2.1, ms[i].2.2, ())) ((h.grow g0).grow g) hi' rfl (by rw [flat_drop memC_len ms i hil]; rfl) fun p => ?_
      refine WP.newst rfl rfl fun s2 g2 c2 b2 => ?_
      have gg : Grow s0 s2 := g.trans g2
      refine WP.field (sh := sI) (x := ms[i].1) b2 (Nat.le_of_ble_eq_true rfl) rfl fun _ => ?_
      refine WP.cond (fun hb => WP.ret ⟨gg, .inr ⟨rfl, fun hall => ?_⟩⟩) (fun hb4 => ?_)
      · have := (hall i hil).1; have := iLt_t hb; omega
      refine WP.field (sh := sI) (x := ms[i].1) b2 (Nat.le_of_ble_eq_true rfl) rfl fun _ => ?_
      refine WP.cond (fun hb => WP.ret ⟨gg, .inr ⟨rfl, fun hall => ?_⟩⟩) (fun hb5 => ?_)
      · have := (hall i hil).2.1; have := iLe_t hb; omega
      have next : (0 < i → ms[i - 1].1 < ms[i].1) → ∀ j, j < i + 1 → okM ms nodes j := fun hord j hj => by
        by_cases e : j = i
        · subst e; exact fun _ => ⟨iLt_f hb4, iLe_f hb5, hord⟩
        · exact hf j (by omega)
      refine WP.cond (fun hb => ?_) (fun hb => WP.ret ⟨hil, by rw [wrap_up (by omega)], gg, next fun hpos => ?_⟩)
      · have hpos : 0 < i := by have := iLt_t hb; exact Int.ofNat_lt.1 this
        refine WP.field (sh := sI) (x := ms[i].1) b2 (Nat.le_of_ble_eq_true rfl) rfl fun _ => ?_
        refine WP.field (sh := sS) (x := v) (b0 gg) (Nat.le_of_ble_eq_true rfl) rfl fun _ => ?_
        obtain ⟨j, hj⟩ : ∃ j, i = j + 1 := ⟨i - 1, by omega⟩
        rw [show wrapK IntKind.i64 (Int.sub (i : Int) 1) = ((j : Nat) : Int) by subst hj; exact wrap_down (by omega)]
        refine WP.elemF (sh := sI) (x := ms[j].1) (h.grow (g0.trans gg)) (by omega) (Nat.le_of_ble_eq_true rfl) (by
          show unCells sI (((((ms.flatMap memC).drop (j * 3)).drop 0)).take 1) = _
          rw [flat_part memC_len ms j (by omega) 0 1 (by omega)]; rfl) fun p q => ?_
        have hj' : i - 1 = j := by omega
        refine WP.cond (fun hb6 => WP.ret ⟨gg, .inr ⟨rfl, fun hall => ?_⟩⟩) (fun hb6 => WP.ret ⟨hil, by rw [wrap_up (by omega)], gg, next fun _ => ?_⟩)
        · have h1 := (hall i hil).2.2 hpos; have h2 := iLe_t hb6; simp only [hj'] at h1; omega
        · have h2 := iLe_f hb6; simp only [hj']; exact h2
      · have := iLt_f hb; omega
    · refine WP.ret ⟨g, .inl ⟨rfl, fun j hj => hf j (by have := ge_nat hc; omega) hj⟩⟩
  rintro z s1 ⟨g, ⟨rfl, hall⟩ | ⟨rfl, hnall⟩⟩
  rotate_left
  · exact WP.ret ⟨(1 : Int), rfl, by rw [if_pos hnall], g0.trans g⟩
  rw [if_neg (Classical.not_not.2 hall)]
  refine WP.field (sh := sS) (x := v) (b0 g) (Nat.le_of_ble_eq_true rfl) rfl fun _ => ?_
  refine WP.loop ms.length (fun i x s' => x = ((i : Int), ()) ∧ Grow s0 s' ∧ ∀ j, j < i → okB ms j)
    (fun z s' => Grow s0 s' ∧ ((z = .inl () ∧ ∀ j, okB ms j) ∨ (z = .inr ((2 : Int), ()) ∧ ¬ ∀ j, okB ms j))) (by omega) ⟨rfl, g, fun j hj => by omega⟩ ?_ ?_
  · rintro i x s1 hi ⟨rfl, g, hf⟩
    refine WP.cond (fun hc => ?_) (fun hc => ?_)
    · have hi' : i < v.n := lt_nat hc
      have hil : i < ms.length := by omega
      refine WP.elem (sh := sM) (x := (ms[i].1, ms[i].2.1, ms[i].2.2, ())) ((h.grow g0).grow g) hi' rfl (by rw [flat_drop memC_len ms i hil]; rfl) fun p => ?_
      refine WP.newst rfl rfl fun s2 g2 c2 b2 => ?_
      have gg : Grow s0 s2 := g.trans g2
      refine WP.field (sh := sI) (x := ms[i].2.1) b2 (Nat.le_of_ble_eq_true rfl) rfl fun _ => ?_
      refine WP.cond (fun hb => WP.ret ⟨gg, .inr ⟨rfl, fun hall => ?_⟩⟩) (fun hb4 => ?_)
      · have := (hall i hil).1; have := iLt_t hb; omega
      refine WP.field (sh := sI) (x := ms[i].2.1) b2 (Nat.le_of_ble_eq_true rfl) rfl fun _ => ?_
      refine WP.cond (fun hb => WP.ret ⟨gg, .inr ⟨rfl, fun hall => ?_⟩⟩) (fun hb5 => ?_)
      · have := (hall i hil).2; have := iLt_t hb; omega
      refine WP.ret ⟨hil, by rw [wrap_up (by omega)], gg, fun j hj => by
        by_cases e : j = i
        · subst e; exact fun _ => ⟨iLt_f hb4, iLt_f hb5⟩
        · exact hf j (by omega)⟩
    · refine WP.ret ⟨g, .inl ⟨rfl, fun j hj => hf j (by have := ge_nat hc; omega) hj⟩⟩
  rintro z s1 ⟨g, ⟨rfl, hall⟩ | ⟨rfl, hnall⟩⟩
  rotate_left
  · exact WP.ret ⟨(2 : Int), rfl, by rw [if_pos hnall], g0.trans g⟩
  rw [if_neg (Classical.not_not.2 hall)]
  refine WP.field (sh := sS) (x := v) (b0 g) (Nat.le_of_ble_eq_true rfl) rfl fun _ => ?_
  refine WP.call (r96 lf hlf v ms s1 hm (h.grow (g0.trans g))) (by omega) fun x s2 ⟨hx, g2⟩ => ?_
  have gg := (g0.trans g).trans g2
  refine WP.cond (fun hb => WP.ret ⟨(13 : Int), rfl, by rw [if_pos (by rw [← hx]; exact not_t hb)], gg⟩) (fun hb => WP.ret ⟨(0 : Int), rfl, by rw [if_neg (by rw [← hx, not_f hb]; decide)], gg⟩)
end Go.Proofs.YtifgpgahbbbkpaaGreat

/- Numbers: masks, shifts and words of 64 bits, as the printed code has them.
Conditions: none. -/
namespace Go.Ax
set_option linter.unusedSimpArgs false
set_option linter.unusedSectionVars false
set_option linter.unusedVariables false

theorem natK_u64 {n : Nat} (h : n < 18446744073709551616) : natK .u64 (n : Int) = n := Nat.mod_eq_of_lt h
theorem natK_i64 {n : Nat} (h : n < 18446744073709551616) : natK .i64 (n : Int) = n := Nat.mod_eq_of_lt h
theorem signK_u64 {n : Nat} (h : n < 18446744073709551616) : signK .u64 n = (n : Int) := by
  show (match Nat.blt n 18446744073709551616 with
    | true => force n Int.ofNat
    | false => _) = _
  rw [nblt, decide_eq_true h]
  exact force_eq n _
theorem signK_i64 {n : Nat} (h : n < 9223372036854775808) : signK .i64 n = (n : Int) := by
  show (match Nat.blt n 9223372036854775808 with
    | true => force n Int.ofNat
    | false => _) = _
  rw [nblt, decide_eq_true h]
  exact force_eq n _
theorem wrap_u64n {n : Nat} (h : n < 18446744073709551616) : wrapK .u64 (n : Int) = (n : Int) := by
  show signK .u64 (natK .u64 (n : Int)) = _
  rw [natK_u64 h, signK_u64 h]
theorem land_mask (n k : Nat) : Nat.land n (2 ^ k - 1) = n % 2 ^ k := Nat.and_two_pow_sub_one_eq_mod n k
theorem land_255 (n : Nat) : Nat.land n 255 = n % 256 := land_mask n 8
theorem land_1 (n : Nat) : Nat.land n 1 = n % 2 := land_mask n 1
theorem lor_add {a b k : Nat} (h : b < 2 ^ k) : Nat.lor (a * 2 ^ k) b = a * 2 ^ k + b := by
  rw [Nat.mul_comm]
  exact (Nat.two_pow_add_eq_or_of_lt h a).symm
theorem lor_256 {a b : Nat} (h : b < 256) : Nat.lor (a * 256) b = a * 256 + b := lor_add (k := 8) h

theorem arM_shr_nat {k k' : IntKind} (a b : Nat) (hb : b ≤ bitsOf k) (s : HS) : arM .shr k (a : Int) k' (b : Int) s = some (((a / 2 ^ b : Nat) : Int), s) := by
  unfold arM
  show M.bind (M.ofO (match Nat.ble b (bitsOf k) with
    | true => ofI k (force (shrN a b) Int.ofNat)
    | false => ofI k (force (shrN a (bitsOf k)) Int.ofNat))) (fun v => M.ofO (S1.un (.int k) v)) s = _
  rw [nble, decide_eq_true hb]
  show M.ofO (S1.un (.int k) (.int k (force (shrN a b) Int.ofNat))) s = _
  rw [force_eq]
  show M.ofO (match nEq k k with | true => some (Int.ofNat (shrN a b)) | false => none) s = _
  rw [(nEq_iff k k).2 rfl]; rfl
theorem arM_shl_nat {k' : IntKind} (a b : Nat) (hb : b ≤ 64) (h : a * 2 ^ b < 18446744073709551616) (s : HS) : arM .shl .u64 (a : Int) k' (b : Int) s = some (((a * 2 ^ b : Nat) : Int), s) := by
  unfold arM
  show M.bind (M.ofO (match Nat.ble b (bitsOf .u64) with
    | true => ofI .u64 (signK .u64 (Nat.mod (shlN a b) (modK .u64)))
    | false => ofI .u64 0)) (fun v => M.ofO (S1.un (.int .u64) v)) s = _
  rw [nble, decide_eq_true (show b ≤ bitsOf .u64 from hb)]
  show M.ofO (S1.un (.int .u64) (.int .u64 (signK .u64 ((a * 2 ^ b) % 18446744073709551616)))) s = _
  rw [Nat.mod_eq_of_lt h, signK_u64 h]; rfl


/-- A test that may end the function with a code. -/
theorem WP.chk {R : Type} {s : HS} {Q : R → HS → Prop} {t : Tr (Unit ⊕ (Int × Unit))} {k : (Unit ⊕ (Int × Unit)) → Tr R} (C : Prop) (e : Int)
    (h : WP t s fun z s' => s' = s ∧ ((z = .inl () ∧ ¬ C) ∨ (z = .inr (e, ()) ∧ C))) (h1 : C → WP (k (.inr (e, ()))) s Q) (h2 : ¬ C → WP (k (.inl ())) s Q) : WP (.bind t k) s Q := by
  refine WP.bind h ?_
  rintro z s' ⟨hs, ⟨hz, hc⟩ | ⟨hz, hc⟩⟩
  · rw [hs, hz]; exact h2 hc
  · rw [hs, hz]; exact h1 hc

theorem WP.newW {R : Type} {s : HS} {Q : R → HS → Prop} {l : List Value} {k : (Nat × List Nat) → Nat → List Nat → Tr R} (h : WP (k (s.c, s.log) s.c []) (push s (bx 1 true false l)) Q) :
    WP (.op begW fun q => .op (newM l) fun b => .op (endW q.2) (k q b)) s Q := by
  refine WP.op (m := begW) (b := (s.c, s.log)) (s1 := noLog s) rfl ?_
  refine WP.op (newM_run l (noLog s)) ?_
  exact WP.op (m := endW s.log) (b := []) (s1 := push s (bx 1 true false l)) rfl h
end Go.Ax

/- Contracts of the reference's looks at views and jobs, and of fetch.Valid.
Conditions: none. -/
namespace Go.Proofs.YtifgpgahbbbkpaaGreat
set_option linter.unusedSimpArgs false
set_option linter.unusedSectionVars false
open Go Go.Ax
set_option linter.unusedVariables false
set_option maxRecDepth 100000

theorem memC_cells (m : Mem) : cellsOf (.agg ⟨memC m⟩) = memC m := rfl

theorem r99 (lf : Nat) (hlf : 2000 ≤ lf) (number : Int) (v : SV) (ms : List Mem) (s : HS) (hm : ms.length ≤ 1100) (h : HoldM s v ms) :
    R13 lf 1 99 [.agg ⟨[vI number, .slice v.a v.n v.c]⟩] (.v sS) s fun x s' => HoldM s' x (ms.filter fun m => m.2.2) ∧ Grow s s' := by
  refine Runs.of (fun call => d99 call lf number v) (show env13.fn.get 99 = some Tryz.f99 by kernel_rfl) rfl (fun call => d99_eq call lf number v) fun n hn => ?_
  have hn' := HoldM.n h
  refine WP.new ?_
  generalize hs0 : push s (bx 1 true false [vI number, slV v]) = s0
  have g0 : Grow s s0 := hs0 ▸ Grow.push s _
  have hc0 : s.c < s0.c := by rw [← hs0]; exact Nat.lt_succ_self _
  have b0 : ∀ {t}, Grow s0 t → t.h.get s.c = some (bx 1 true false [vI number, Value.slice v.a v.n v.c]) := fun {t} g => by rw [g.keep _ hc0, ← hs0]; exact push_at _ _
  refine WP.loop ms.length (fun i x s' => x = (x.1, (i : Int), ()) ∧ Grow s0 s' ∧ x.1.n ≤ i ∧ Own s0.c s' x.1 3 (((ms.take i).filter fun m => m.2.2).flatMap memC))
    (fun z s' => Grow s0 s' ∧ HoldM s' z.1 (ms.filter fun m => m.2.2)) (by omega) ⟨rfl, Grow.refl _, Nat.le_refl _, Own.nil _ _ _⟩ ?_ ?_
  · rintro i ⟨w, x2⟩ s1 hi ⟨hx, g, hwn, ow⟩
    have hx2 : x2 = ((i : Int), ()) := (Prod.mk.inj hx).2
    subst hx2
    refine WP.field (sh := sS) (x := v) (b0 g) (Nat.le_of_ble_eq_true rfl) rfl fun _ => ?_
    refine WP.cond (fun hc => ?_) (fun hc => ?_)
    · have hi' : i < v.n := lt_nat hc
      have hil : i < ms.length := by omega
      have htk : ms.take (i + 1) = ms.take i ++ [ms[i]] := by rw [List.take_add_one, List.getElem?_eq_getElem hil]; rfl
      refine WP.bind (R := fun y s2 => Grow s0 s2 ∧ y.1.n ≤ i + 1 ∧ Own s0.c s2 y.1 3 (((ms.take (i + 1)).filter fun m => m.2.2).flatMap memC)) ?_ fun y s2 ⟨g2, hy, ow2⟩ => WP.ret ⟨hil, by rw [wrap_up (by omega)], g2, hy, ow2⟩
      refine WP.field (sh := sS) (x := v) (b0 g) (Nat.le_of_ble_eq_true rfl) rfl fun _ => ?_
      refine WP.elemF (sh := sB) (x := ms[i].2.2) (h.grow (g0.trans g)) hi' (Nat.le_of_ble_eq_true rfl) (by
          show unCells sB (((((ms.flatMap memC).drop (i * 3)).drop 2)).take 1) = _
          rw [flat_part memC_len ms i hil 2 1 (by omega)]; rfl) fun p q => ?_
      refine WP.cond (fun hb => ?_) (fun hb => WP.ret ⟨g, by show w.n ≤ _; have : w.n ≤ i := hwn; omega, ?_⟩)
      · refine WP.field (sh := sS) (x := v) (b0 g) (Nat.le_of_ble_eq_true rfl) rfl fun _ => ?_
        refine WP.elem (sh := sM) (x := (ms[i].1, ms[i].2.1, ms[i].2.2, ())) (h.grow (g0.trans g)) hi' rfl (by rw [flat_drop memC_len ms i hil]; rfl) fun p => ?_
        refine WP.app1 (lo := s0.c) (L := ((ms.take i).filter fun m => m.2.2).flatMap memC) (val := .agg ⟨memC ms[i]⟩) (v := w) ow g.c rfl rfl (by omega) (by omega) rfl (by have : w.n ≤ i := hwn; omega) fun c v' s' hv' ow' _ _ gr => ?_
        refine WP.ret ⟨gr _ (Nat.le_refl _) g, by show v'.n ≤ _; rw [hv']; have : w.n ≤ i := hwn; omega, ?_⟩
        rw [htk, List.filter_append, List.flatMap_append, show [ms[i]].filter (fun m => m.2.2) = [ms[i]] by simp [hb]]
        rw [show [ms[i]].flatMap memC = memC ms[i] by simp]
        exact ow'
      · rw [htk, List.filter_append, List.flatMap_append, show [ms[i]].filter (fun m => m.2.2) = [] by simp [hb]]
        rw [show ([] : List Mem).flatMap memC = [] from rfl, List.append_nil]
        exact ow
    · refine WP.ret ⟨g, ?_⟩
      have hi' : ms.take i = ms := List.take_of_length_le (by have := ge_nat hc; omega)
      rw [hi'] at ow
      exact ow.hold
  · rintro z s1 ⟨g, hz⟩
    exact WP.ret ⟨_, rfl, hz, g0.trans g⟩

theorem r51 (lf : Nat) (hlf : 2000 ≤ lf) (number nodes : Int) (v : SV) (ms : List Mem) (s : HS) (hm : ms.length ≤ 1100) (h : HoldM s v ms) :
    R13 lf 2 51 [.agg ⟨[vI number, .slice v.a v.n v.c]⟩, vI nodes] shI s fun x s' => x = vView number nodes ms ∧ Grow s s' := by
  refine Runs.of (fun call => d51 call lf number v nodes) (show env13.fn.get 51 = some Tryz.f51 by kernel_rfl) rfl (fun call => d51_eq call lf number v nodes) fun n hn => ?_
  have hn' := HoldM.n h
  refine WP.new ?_
  generalize hs0 : push s (bx 1 true false [vI number, slV v]) = s0
  have g0 : Grow s s0 := hs0 ▸ Grow.push s _
  have hc0 : s.c < s0.c := by rw [← hs0]; exact Nat.lt_succ_self _
  have b0 : ∀ {t}, Grow s0 t → t.h.get s.c = some (bx 1 true false [vI number, Value.slice v.a v.n v.c]) := fun {t} g => by rw [g.keep _ hc0, ← hs0]; exact push_at _ _
  refine WP.chk (¬ (1 ≤ nodes ∧ nodes ≤ 5)) 1 (WP.cond (fun hb => WP.ret ⟨rfl, .inr ⟨rfl, by have := iLt_t hb; omega⟩⟩) (fun h1 => WP.cond (fun hb => WP.ret ⟨rfl, .inr ⟨rfl, by have := iLt_t hb; omega⟩⟩) (fun h2 =>
    WP.ret ⟨rfl, .inl ⟨rfl, Classical.not_not.2 ⟨iLt_f h1, iLt_f h2⟩⟩⟩))) (fun hc => ?_) (fun hc => ?_)
  · exact WP.ret ⟨(1 : Int), rfl, by unfold vView; rw [if_pos hc], g0⟩
  have hnodes := Classical.not_not.1 hc
  refine WP.chk (number < 0 ∨ 16 ≤ number) 2 ?_ (fun hc => ?_) (fun hnum => ?_)
  · refine WP.field (sh := sI) (x := number) (b0 (Grow.refl _)) (Nat.le_of_ble_eq_true rfl) rfl fun _ => ?_
    refine WP.cond (fun hb => WP.ret ⟨rfl, .inr ⟨rfl, .inl (iLt_t hb)⟩⟩) (fun hb1 => ?_)
    refine WP.field (sh := sI) (x := number) (b0 (Grow.refl _)) (Nat.le_of_ble_eq_true rfl) rfl fun _ => ?_
    exact WP.cond (fun hb => WP.ret ⟨rfl, .inr ⟨rfl, .inr (iLe_t hb)⟩⟩) (fun hb2 => WP.ret ⟨rfl, .inl ⟨rfl, by have := iLt_f hb1; have := iLe_f hb2; omega⟩⟩)
  · exact WP.ret ⟨(2 : Int), rfl, by unfold vView; rw [if_neg (Classical.not_not.2 hnodes), if_pos hc], g0⟩
  have hspec : vView number nodes ms = open Classical in if ms.length = 0 then 1 else if ¬ (∀ i, okM ms nodes i) then 1 else if ¬ (∀ i, okB ms i) then 2 else if (ms.any fun m => m.2.2) = false then 13 else 0 := by
    unfold vView; rw [if_neg (Classical.not_not.2 hnodes), if_neg hnum]
  rw [hspec]
  refine WP.loop ms.length (fun i x s' => x = ((i : Int), ()) ∧ Grow s0 s' ∧ ∀ j, j < i → okM ms nodes j)
    (fun z s' => Grow s0 s' ∧ ((z = .inl () ∧ ∀ j, okM ms nodes j) ∨ (z = .inr ((1 : Int), ()) ∧ ms.length ≠ 0 ∧ ¬ ∀ j, okM ms nodes j))) (by omega) ⟨rfl, Grow.refl _, fun j hj => by omega⟩ ?_ ?_
  · rintro i x s1 hi ⟨rfl, g, hf⟩
    refine WP.field (sh := sS) (x := v) (b0 g) (Nat.le_of_ble_eq_true rfl) rfl fun _ => ?_
    refine WP.cond (fun hc => ?_) (fun hc => ?_)
    · have hi' : i < v.n := lt_nat hc
      have hil : i < ms.length := by omega
      refine WP.field (sh := sS) (x := v) (b0 g) (Nat.le_of_ble_eq_true rfl) rfl fun _ => ?_
      refine WP.elemF (sh := sI) (x := ms[i].1) (h.grow (g0.trans g)) hi' (Nat.le_of_ble_eq_true rfl) (by
          show unCells sI (((((ms.flatMap memC).drop (i * 3)).drop 0)).take 1) = _
          rw [flat_part memC_len ms i hil 0 1 (by omega)]; rfl) fun p q => ?_
      refine WP.cond (fun hb => WP.ret ⟨g, .inr ⟨rfl, by omega, fun hall => ?_⟩⟩) (fun hb4 => ?_)
      · have := (hall i hil).1; have := iLt_t hb; omega
      refine WP.cond (fun hb => WP.ret ⟨g, .inr ⟨rfl, by omega, fun hall => ?_⟩⟩) (fun hb5 => ?_)
      · have := (hall i hil).2.1; have := iLe_t hb; omega
      have next : (0 < i → ms[i - 1].1 < ms[i].1) → ∀ j, j < i + 1 → okM ms nodes j := fun hord j hj => by
        by_cases e : j = i
        · subst e; exact fun _ => ⟨iLt_f hb4, iLe_f hb5, hord⟩
        · exact hf j (by omega)
      refine WP.cond (fun hb => ?_) (fun hb => WP.ret ⟨hil, by rw [wrap_up (by omega)], g, next fun hpos => ?_⟩)
      · have hpos : 0 < i := by have := iLt_t hb; exact Int.ofNat_lt.1 this
        refine WP.field (sh := sS) (x := v) (b0 g) (Nat.le_of_ble_eq_true rfl) rfl fun _ => ?_
        obtain ⟨j, hj⟩ : ∃ j, i = j + 1 := ⟨i - 1, by omega⟩
        rw [show wrapK IntKind.i64 (Int.sub (i : Int) 1) = ((j : Nat) : Int) by subst hj; exact wrap_down (by omega)]
        refine WP.elemF (sh := sI) (x := ms[j].1) (h.grow (g0.trans g)) (by omega) (Nat.le_of_ble_eq_true rfl) (by
          show unCells sI (((((ms.flatMap memC).drop (j * 3)).drop 0)).take 1) = _
          rw [flat_part memC_len ms j (by omega) 0 1 (by omega)]; rfl) fun p q => ?_
        have hj' : i - 1 = j := by omega
        refine WP.cond (fun hb6 => WP.ret ⟨g, .inr ⟨rfl, by omega, fun hall => ?_⟩⟩) (fun hb6 => WP.ret ⟨hil, by rw [wrap_up (by omega)], g, next fun _ => ?_⟩)
        · have h1 := (hall i hil).2.2 hpos; have h2 := iLe_t hb6; simp only [hj'] at h1; omega
        · have h2 := iLe_f hb6; simp only [hj']; exact h2
      · have := iLt_f hb; omega
    · refine WP.ret ⟨g, .inl ⟨rfl, fun j hj => hf j (by have := ge_nat hc; omega) hj⟩⟩
  rintro z s1 ⟨g, ⟨rfl, hall⟩ | ⟨rfl, hne, hnall⟩⟩
  rotate_left
  · exact WP.ret ⟨(1 : Int), rfl, by rw [if_neg hne, if_pos hnall], g0.trans g⟩
  refine WP.field (sh := sS) (x := v) (b0 g) (Nat.le_of_ble_eq_true rfl) rfl fun _ => ?_
  refine WP.cond (fun hb => WP.ret ⟨(1 : Int), rfl, ?_, g0.trans g⟩) (fun hb3 => ?_)
  · rw [if_pos]
    have h0 : (v.n : Int) = 0 := iEq_t hb
    omega
  have hlen : ms.length ≠ 0 := by have := iEq_f hb3; intro e; apply this; rw [hn', e]; rfl
  rw [if_neg hlen, if_neg (Classical.not_not.2 hall)]
  refine WP.loop ms.length (fun i x s' => x = ((i : Int), ()) ∧ Grow s0 s' ∧ ∀ j, j < i → okB ms j)
    (fun z s' => Grow s0 s' ∧ ((z = .inl () ∧ ∀ j, okB ms j) ∨ (z = .inr ((2 : Int), ()) ∧ ¬ ∀ j, okB ms j))) (by omega) ⟨rfl, g, fun j hj => by omega⟩ ?_ ?_
  · rintro i x s1 hi ⟨rfl, g, hf⟩
    refine WP.field (sh := sS) (x := v) (b0 g) (Nat.le_of_ble_eq_true rfl) rfl fun _ => ?_
    refine WP.cond (fun hc => ?_) (fun hc => ?_)
    · have hi' : i < v.n := lt_nat hc
      have hil : i < ms.length := by omega
      refine WP.field (sh := sS) (x := v) (b0 g) (Nat.le_of_ble_eq_true rfl) rfl fun _ => ?_
      refine WP.elemF (sh := sI) (x := ms[i].2.1) (h.grow (g0.trans g)) hi' (Nat.le_of_ble_eq_true rfl) (by
          show unCells sI (((((ms.flatMap memC).drop (i * 3)).drop 1)).take 1) = _
          rw [flat_part memC_len ms i hil 1 1 (by omega)]; rfl) fun p q => ?_
      refine WP.cond (fun hb => WP.ret ⟨g, .inr ⟨rfl, fun hall => ?_⟩⟩) (fun hb4 => ?_)
      · have := (hall i hil).1; have := iLt_t hb; omega
      refine WP.cond (fun hb => WP.ret ⟨g, .inr ⟨rfl, fun hall => ?_⟩⟩) (fun hb5 => ?_)
      · have := (hall i hil).2; have := iLt_t hb; omega
      refine WP.ret ⟨hil, by rw [wrap_up (by omega)], g, fun j hj => by
        by_cases e : j = i
        · subst e; exact fun _ => ⟨iLt_f hb4, iLt_f hb5⟩
        · exact hf j (by omega)⟩
    · refine WP.ret ⟨g, .inl ⟨rfl, fun j hj => hf j (by have := ge_nat hc; omega) hj⟩⟩
  rintro z s1 ⟨g, ⟨rfl, hall⟩ | ⟨rfl, hnall⟩⟩
  rotate_left
  · exact WP.ret ⟨(2 : Int), rfl, by rw [if_pos hnall], g0.trans g⟩
  rw [if_neg (Classical.not_not.2 hall)]
  refine WP.ld (sh := .agg [.int .i64, .slice]) (x := (number, v, ())) (b0 g) (Nat.le_of_ble_eq_true rfl) rfl ?_
  refine WP.call (r99 lf hlf number v ms s1 hm (h.grow (g0.trans g))) (by omega) fun x s2 ⟨hx, g2⟩ => ?_
  have gg := (g0.trans g).trans g2
  have hxn : SV.n x = (ms.filter fun m => m.2.2).length := HoldM.n hx
  have hany : (ms.any fun m => m.2.2) = false ↔ SV.n x = 0 := by
    rw [hxn, List.length_eq_zero_iff, List.filter_eq_nil_iff, List.any_eq_false]
  refine WP.cond (fun hb => WP.ret ⟨(13 : Int), rfl, by rw [if_pos (hany.2 (by have h0 : ((SV.n x : Nat) : Int) = 0 := iEq_t hb; omega))], gg⟩) (fun hb => WP.ret ⟨(0 : Int), rfl, by
    rw [if_neg (fun h0 => iEq_f hb (by rw [hany.1 h0]; rfl))], gg⟩)
end Go.Proofs.YtifgpgahbbbkpaaGreat
