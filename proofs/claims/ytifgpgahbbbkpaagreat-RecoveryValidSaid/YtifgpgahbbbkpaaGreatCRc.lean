/- Contracts of tags, of the program's and of the reference's.
Conditions: none. -/
import Derived.Test.YtifgpgahbbbkpaaGreatCRb
namespace Go.Proofs.YtifgpgahbbbkpaaGreat
set_option linter.unusedSimpArgs false
set_option linter.unusedSectionVars false
open Go Go.Ax
set_option linter.unusedVariables false
set_option maxRecDepth 100000

def incP (a : Int) : Prop := 1 ≤ a ∧ a ≤ 59 ∧ Int.tmod a 2 = 1
def cliP (c : Int) : Prop := 0 ≤ c ∧ c < 6

theorem r149 (lf : Nat) (a lo hi : Int) (s : HS) : R13 lf 1 149 [vI a, vI lo, vI hi] shB s fun x s' => s' = s ∧ (x = true ↔ lo ≤ a ∧ a ≤ hi) := by
  refine Runs.of (fun call => d149 call lf a lo hi) (show env13.fn.get 149 = some Tryz.f149 by kernel_rfl) rfl (fun call => d149_eq call lf a lo hi) fun n hn => ?_
  refine WP.cond (fun h => WP.ret ⟨_, rfl, rfl, ?_⟩) (fun h => WP.ret ⟨false, rfl, rfl, ?_⟩)
  · rw [iLe_eq]
    exact decide_eq_true_iff.trans ⟨fun h' => ⟨iLe_t h, h'⟩, fun h => h.2⟩
  · have := iLe_f h
    constructor
    · intro h; cases h
    · intro h; omega
theorem r93 (lf : Nat) (a : Int) (s : HS) : R13 lf 2 93 [vI a] shB s fun x s' => s' = s ∧ (x = true ↔ incP a) := by
  refine Runs.of (fun call => d93 call lf a) (show env13.fn.get 93 = some Tryz.f93 by kernel_rfl) rfl (fun call => d93_eq call lf a) fun n hn => ?_
  refine WP.call (r149 lf a 1 59 s) hn fun (x : Bool) s1 ⟨e, hx⟩ => ?_
  rw [e]
  refine WP.cond (fun h => WP.ret ⟨_, rfl, rfl, ?_⟩) (fun h => WP.ret ⟨false, rfl, rfl, ?_⟩)
  · have := hx.1 h
    rw [iEq_eq]
    exact decide_eq_true_iff.trans ⟨fun h => ⟨this.1, this.2, h⟩, fun h => h.2.2⟩
  · constructor
    · intro h; cases h
    · intro h'; rw [hx.2 ⟨h'.1, h'.2.1⟩] at h; cases h
theorem r94 (lf : Nat) (c : Int) (s : HS) : R13 lf 2 94 [vI c] shB s fun x s' => s' = s ∧ (x = true ↔ cliP c) := by
  refine Runs.of (fun call => d94 call lf c) (show env13.fn.get 94 = some Tryz.f94 by kernel_rfl) rfl (fun call => d94_eq call lf c) fun n hn => ?_
  refine WP.call (r149 lf c 0 5 s) hn fun (x : Bool) s1 ⟨e, hx⟩ => ?_
  rw [e]
  refine WP.ret ⟨x, rfl, rfl, hx.trans ⟨fun h => ⟨h.1, by omega⟩, fun h => ⟨h.1, by have := h.2; omega⟩⟩⟩
theorem r92 (lf : Nat) (a : Int) (s : HS) : R13 lf 1 92 [vI a] shB s fun x s' => s' = s ∧ (x = true ↔ incP a) := by
  refine Runs.of (fun call => d92 call lf a) (show env13.fn.get 92 = some Tryz.f92 by kernel_rfl) rfl (fun call => d92_eq call lf a) fun n hn => ?_
  refine WP.cond (fun h => WP.cond (fun h' => WP.ret ⟨_, rfl, rfl, ?_⟩) (fun h' => WP.ret ⟨false, rfl, rfl, ?_⟩)) (fun h => WP.ret ⟨false, rfl, rfl, ?_⟩)
  · rw [iEq_eq]
    exact decide_eq_true_iff.trans ⟨fun h'' => ⟨iLe_t h, iLe_t h', h''⟩, fun h => h.2.2⟩
  · have := iLe_f h'
    exact ⟨fun h => (by cases h), fun h => by have := h.2.1; omega⟩
  · have := iLe_f h
    exact ⟨fun h => (by cases h), fun h => by have := h.1; omega⟩
theorem r21 (lf : Nat) (c : Int) (s : HS) : R13 lf 1 21 [vI c] shB s fun x s' => s' = s ∧ (x = true ↔ cliP c) := by
  refine Runs.of (fun call => d21 call lf c) (show env13.fn.get 21 = some Tryz.f21 by kernel_rfl) rfl (fun call => d21_eq call lf c) fun n hn => ?_
  refine WP.cond (fun h => WP.ret ⟨_, rfl, rfl, ?_⟩) (fun h => WP.ret ⟨false, rfl, rfl, ?_⟩)
  · rw [iLt_eq]
    exact decide_eq_true_iff.trans ⟨fun h' => ⟨iLe_t h, h'⟩, fun h => h.2⟩
  · have := iLe_f h
    exact ⟨fun h => (by cases h), fun h => by have := h.1; omega⟩

open Classical in
/-- Why there is no tag. -/
noncomputable def tagE (a c : Int) : Int := if ¬ incP a then 2 else if ¬ cliP c then 1 else 0
def tagV (a c : Int) : Int := a * 256 + (c + 1)
theorem tag_bits {a c : Int} (h : incP a) (h' : cliP c) (s : HS) : arM .shl .u64 (wrapK .u64 a) .u64 8 s = some (a * 256, s) ∧
    signK .u64 (Nat.lor (natK .u64 (a * 256)) (natK .u64 (wrapK .u64 (wrapK .i64 (Int.add c 1))))) = tagV a c := by
  obtain ⟨h1, h2, _⟩ := h
  obtain ⟨h3, h4⟩ := h'
  obtain ⟨n, rfl⟩ := Int.eq_ofNat_of_zero_le (show 0 ≤ a by omega)
  obtain ⟨m, rfl⟩ := Int.eq_ofNat_of_zero_le h3
  have e1 : ((n : Int) * 256) = ((n * 256 : Nat) : Int) := by omega
  constructor
  · rw [wrap_u64n (by omega), e1]
    exact arM_shl_nat n 8 (by omega) (by show n * 256 < _; omega) s
  · have e2 : wrapK .i64 (Int.add (m : Int) 1) = ((m + 1 : Nat) : Int) := wrap_up (by omega)
    rw [e2, wrap_u64n (by omega), e1, natK_u64 (by omega), natK_u64 (by omega), lor_256 (by omega), signK_u64 (by omega)]
    unfold tagV; omega

abbrev shTag : S3 := .tup [sU, sI]
theorem r48 (lf : Nat) (a c : Int) (s : HS) : R13 lf 3 48 [vI a, vI c] shTag s fun x s' => s' = s ∧ x.2.1 = tagE a c ∧ (tagE a c = 0 → x.1 = tagV a c) := by
  refine Runs.of (fun call => d48 call lf a c) (show env13.fn.get 48 = some Tryz.f48 by kernel_rfl) rfl (fun call => d48_eq call lf a c) fun n hn => ?_
  refine WP.call (r93 lf a s) hn fun (x : Bool) s1 ⟨e, hx⟩ => ?_
  rw [e]
  refine WP.cond (fun h => WP.ret ⟨((0 : Int), ((2 : Int), ())), rfl, rfl, ?_, ?_⟩) (fun h => ?_)
  · have hn : ¬ incP a := fun h' => by rw [hx.2 h'] at h; cases h
    unfold tagE; rw [if_pos hn]
  · have hn : ¬ incP a := fun h' => by rw [hx.2 h'] at h; cases h
    unfold tagE; rw [if_pos hn]; intro h; cases h
  have hi := hx.1 (not_f h)
  refine WP.call (r94 lf c s) hn fun (y : Bool) s1 ⟨e, hy⟩ => ?_
  rw [e]
  refine WP.cond (fun h => WP.ret ⟨((0 : Int), ((1 : Int), ())), rfl, rfl, ?_, ?_⟩) (fun h => ?_)
  · have hn : ¬ cliP c := fun h' => by rw [hy.2 h'] at h; cases h
    unfold tagE; rw [if_neg (Classical.not_not.2 hi), if_pos hn]
  · have hn : ¬ cliP c := fun h' => by rw [hy.2 h'] at h; cases h
    unfold tagE; rw [if_neg (Classical.not_not.2 hi), if_pos hn]; intro h; cases h
  have hcl := hy.1 (not_f h)
  obtain ⟨t1, t2⟩ := tag_bits hi hcl s
  refine WP.op t1 (WP.ret ⟨(_, ((0 : Int), ())), rfl, rfl, ?_, fun _ => t2⟩)
  unfold tagE; rw [if_neg (Classical.not_not.2 hi), if_neg (Classical.not_not.2 hcl)]
theorem r47 (lf : Nat) (a c : Int) (s : HS) : R13 lf 3 47 [vI a, vI c] shTag s fun x s' => s' = s ∧ x.2.1 = tagE a c ∧ (tagE a c = 0 → x.1 = tagV a c) ∧ (tagE a c ≠ 0 → x.1 = (0 : Int)) := by
  refine Runs.of (fun call => d47 call lf a c) (show env13.fn.get 47 = some Tryz.f47 by kernel_rfl) rfl (fun call => d47_eq call lf a c) fun n hn => ?_
  refine WP.call (r92 lf a s) (by omega) fun (x : Bool) s1 ⟨e, hx⟩ => ?_
  rw [e]
  refine WP.cond (fun h => WP.ret ⟨((0 : Int), ((2 : Int), ())), rfl, rfl, ?_, ?_, fun _ => rfl⟩) (fun h => ?_)
  · have hn : ¬ incP a := fun h' => by rw [hx.2 h'] at h; cases h
    unfold tagE; rw [if_pos hn]
  · have hn : ¬ incP a := fun h' => by rw [hx.2 h'] at h; cases h
    unfold tagE; rw [if_pos hn]; intro h; cases h
  have hi := hx.1 (not_f h)
  refine WP.call (r21 lf c s) (by omega) fun (y : Bool) s1 ⟨e, hy⟩ => ?_
  rw [e]
  refine WP.cond (fun h => WP.ret ⟨((0 : Int), ((1 : Int), ())), rfl, rfl, ?_, ?_, fun _ => rfl⟩) (fun h => ?_)
  · have hn : ¬ cliP c := fun h' => by rw [hy.2 h'] at h; cases h
    unfold tagE; rw [if_neg (Classical.not_not.2 hi), if_pos hn]
  · have hn : ¬ cliP c := fun h' => by rw [hy.2 h'] at h; cases h
    unfold tagE; rw [if_neg (Classical.not_not.2 hi), if_pos hn]; intro h; cases h
  have hcl := hy.1 (not_f h)
  obtain ⟨t1, t2⟩ := tag_bits hi hcl s
  have h0 : tagE a c = 0 := by unfold tagE; rw [if_neg (Classical.not_not.2 hi), if_neg (Classical.not_not.2 hcl)]
  exact WP.op t1 (WP.ret ⟨(_, ((0 : Int), ())), rfl, rfl, h0.symm, fun _ => t2, fun h => absurd h0 h⟩)
theorem tagE_zero {a c : Int} : tagE a c = 0 ↔ incP a ∧ cliP c := by
  unfold tagE
  by_cases h : incP a
  · rw [if_neg (Classical.not_not.2 h)]
    by_cases h' : cliP c
    · rw [if_neg (Classical.not_not.2 h')]; exact ⟨fun _ => ⟨h, h'⟩, fun _ => rfl⟩
    · rw [if_pos h']; exact ⟨fun e => (by cases e), fun e => absurd e.2 h'⟩
  · rw [if_pos h]; exact ⟨fun e => (by cases e), fun e => absurd e.1 h⟩

theorem r98 (lf : Nat) (s : HS) : R13 lf 1 98 [vI 8] (.v sU) s fun x s' => s' = s ∧ x = (255 : Int) := by
  refine Runs.of (fun call => d98 call lf 8) (show env13.fn.get 98 = some Tryz.f98 by kernel_rfl) rfl (fun call => d98_eq call lf 8) fun n hn => ?_
  refine WP.op (b := (256 : Int)) (s1 := s) rfl (WP.ret ⟨(255 : Int), rfl, rfl, rfl⟩)

open Classical in
/-- A tag's incarnation, compute node, and whether it is one. -/
noncomputable def tagD (t : Nat) : Int × Int × Bool := if incP ((t / 256 : Nat) : Int) ∧ cliP (((t % 256 : Nat) : Int) - 1) then (((t / 256 : Nat) : Int), ((t % 256 : Nat) : Int) - 1, true) else (0, 0, false)

theorem low_bits {t : Nat} (ht : t < 18446744073709551616) : wrapK .i64 (Int.sub (wrapK .i64 (signK .u64 (Nat.land (natK .u64 (t : Int)) 255))) 1) = ((t % 256 : Nat) : Int) - 1 := by
  rw [natK_u64 ht, land_255, signK_u64 (by omega), wrap_small (i := ((t % 256 : Nat) : Int)) (by omega) (by omega)]
  exact wrap_small (i := Int.sub ((t % 256 : Nat) : Int) 1) (by show _ ≤ ((t % 256 : Nat) : Int) - 1; omega) (by show ((t % 256 : Nat) : Int) - 1 < _; omega)

abbrev shSpl : S3 := .tup [sI, sI, sB]
theorem r50 (lf : Nat) (t : Nat) (ht : t < 18446744073709551616) (s : HS) : R13 lf 4 50 [vU (t : Int)] shSpl s fun x s' => s' = s ∧ x.1 = (tagD t).1 ∧ x.2.1 = (tagD t).2.1 ∧ x.2.2.1 = (tagD t).2.2 := by
  refine Runs.of (fun call => d50 call lf (t : Int)) (show env13.fn.get 50 = some Tryz.f50 by kernel_rfl) rfl (fun call => d50_eq call lf (t : Int)) fun n hn => ?_
  refine WP.bind (R := fun (z : Int × Int × Unit) s' => s' = s ∧ ((t / 256 ≤ 59 ∧ z.1 = ((t / 256 : Nat) : Int) ∧ z.2.1 = ((t % 256 : Nat) : Int) - 1) ∨ (59 < t / 256 ∧ z.1 = 0 ∧ z.2.1 = 0))) ?_ ?_
  · refine WP.op (arM_shr_nat t 8 (by decide) s) ?_
    refine WP.cond (fun h => ?_) (fun h => WP.ret ⟨rfl, .inr ⟨by have h : (59 : Int) < ((t / 256 : Nat) : Int) := iLe_f h; omega, rfl, rfl⟩⟩)
    refine WP.call (r98 lf s) (by omega) fun (x : Int) s1 ⟨e, hx⟩ => ?_
    rw [e, hx]
    have hle : t / 256 ≤ 59 := by have h : ((t / 256 : Nat) : Int) ≤ 59 := iLe_t h; omega
    refine WP.ret ⟨rfl, .inl ⟨hle, ?_, ?_⟩⟩
    · exact wrap_small (i := ((t / 2 ^ 8 : Nat) : Int)) (by omega) (by show ((t / 256 : Nat) : Int) < _; omega)
    · exact low_bits ht
  rintro ⟨a, c, _⟩ s1 ⟨e, hz⟩
  rw [e]
  have hbad : ∀ {P : Prop}, ¬ (incP ((t / 256 : Nat) : Int) ∧ cliP (((t % 256 : Nat) : Int) - 1)) → (0 : Int) = (tagD t).1 ∧ (0 : Int) = (tagD t).2.1 ∧ false = (tagD t).2.2 := by
    intro P h; unfold tagD; rw [if_neg h]; exact ⟨rfl, rfl, rfl⟩
  refine WP.bind (R := fun (z : (Int × Int × Unit) ⊕ (Int × Int × Bool × Unit)) s' => s' = s ∧ ((z = .inr (0, 0, false, ()) ∧ ¬ (incP ((t / 256 : Nat) : Int) ∧ cliP (((t % 256 : Nat) : Int) - 1))) ∨
    (z = .inl (((t / 256 : Nat) : Int), ((t % 256 : Nat) : Int) - 1, ()) ∧ (incP ((t / 256 : Nat) : Int) ∧ cliP (((t % 256 : Nat) : Int) - 1))))) ?_ ?_
  · refine WP.call (r48 lf a c s) (by omega) fun x s1 ⟨e, hx1, hx2⟩ => ?_
    rw [e]
    obtain ⟨v, ec, _⟩ := x
    simp only at hx1 hx2 hz
    rcases hz with ⟨hle, h1, h2⟩ | ⟨hgt, h1, h2⟩
    · subst h1; subst h2
      refine WP.cond (fun h => WP.ret ⟨rfl, .inl ⟨rfl, fun hh => ?_⟩⟩) (fun h => ?_)
      · exact iEq_f (not_t h) (hx1.trans (tagE_zero.2 hh))
      have h0 := hx1.symm.trans (iEq_t (not_f h))
      have hh := tagE_zero.1 h0
      refine WP.cond (fun h => ?_) (fun h => WP.ret ⟨rfl, .inr ⟨rfl, hh⟩⟩)
      exfalso
      apply iEq_f (not_t h)
      rw [show v = _ from hx2 h0]
      unfold tagV
      omega
    · subst h1; subst h2
      have hno : tagE 0 0 = 2 := by unfold tagE; rw [if_pos (fun h => by have := h.1; omega)]
      refine WP.cond (fun h => WP.ret ⟨rfl, .inl ⟨rfl, fun hh => ?_⟩⟩) (fun h => ?_)
      · have := hh.1.2.1; omega
      · have := iEq_t (not_f h)
        rw [hx1, hno] at this
        cases this
  rintro z s1 ⟨e, ⟨hz, hh⟩ | ⟨hz, hh⟩⟩
  · rw [e, hz]
    exact WP.ret ⟨((0 : Int), ((0 : Int), (false, ()))), rfl, rfl, hbad (P := True) hh⟩
  · rw [e, hz]
    refine WP.ret ⟨(((t / 256 : Nat) : Int), (((t % 256 : Nat) : Int) - 1, (true, ()))), rfl, rfl, ?_⟩
    unfold tagD; rw [if_pos hh]; exact ⟨rfl, rfl, rfl⟩

theorem r52 (lf : Nat) (t : Nat) (ht : t < 18446744073709551616) (s : HS) : R13 lf 4 52 [vU (t : Int)] shSpl s fun x s' => s' = s ∧ x.1 = (tagD t).1 ∧ x.2.1 = (tagD t).2.1 ∧ x.2.2.1 = (tagD t).2.2 := by
  refine Runs.of (fun call => d52 call lf (t : Int)) (show env13.fn.get 52 = some Tryz.f52 by kernel_rfl) rfl (fun call => d52_eq call lf (t : Int)) fun n hn => ?_
  have hbad : ∀ {P : Prop}, ¬ (incP ((t / 256 : Nat) : Int) ∧ cliP (((t % 256 : Nat) : Int) - 1)) → (0 : Int) = (tagD t).1 ∧ (0 : Int) = (tagD t).2.1 ∧ false = (tagD t).2.2 := by
    intro P h; unfold tagD; rw [if_neg h]; exact ⟨rfl, rfl, rfl⟩
  refine WP.op (arM_shr_nat t 8 (by decide) s) ?_
  have hm : wrapK .i64 (signK .u64 (Nat.land (natK .u64 ((t / 2 ^ 8 : Nat) : Int)) 16777215)) = ((t / 256 % 16777216 : Nat) : Int) := by
    rw [natK_u64 (by show t / 256 < _; omega), show Nat.land (t / 2 ^ 8) 16777215 = t / 256 % 16777216 from land_mask (t / 2 ^ 8) 24, signK_u64 (by omega), wrap_small (by omega) (by omega)]
  rw [hm, low_bits ht]
  refine WP.call (r47 lf _ _ s) hn fun x s1 ⟨e, hx1, hx2, _⟩ => ?_
  rw [e]
  obtain ⟨v, ec, _⟩ := x
  simp only at hx1 hx2
  refine WP.bind (R := fun (z : Unit ⊕ (Int × Int × Bool × Unit)) s' => s' = s ∧ ((z = .inr (0, 0, false, ()) ∧ ¬ (incP ((t / 256 : Nat) : Int) ∧ cliP (((t % 256 : Nat) : Int) - 1))) ∨
    (z = .inl () ∧ t / 256 % 16777216 = t / 256 ∧ (incP ((t / 256 : Nat) : Int) ∧ cliP (((t % 256 : Nat) : Int) - 1))))) ?_ ?_
  · refine WP.cond (fun h => WP.ret ⟨rfl, .inl ⟨rfl, fun hh => ?_⟩⟩) (fun h => ?_)
    · have h59 := hh.1.2.1
      apply iEq_f (not_t h)
      rw [hx1, show t / 256 % 16777216 = t / 256 by omega]
      exact tagE_zero.2 hh
    have h0 := hx1.symm.trans (iEq_t (not_f h))
    have hh := tagE_zero.1 h0
    have hv := hx2 h0
    refine WP.cond (fun h => WP.ret ⟨rfl, .inl ⟨rfl, fun hh' => ?_⟩⟩) (fun h => WP.ret ⟨rfl, .inr ⟨rfl, ?_⟩⟩)
    · have h59 := hh'.1.2.1
      apply iEq_f (not_t h)
      rw [show v = _ from hv]
      unfold tagV
      omega
    · have he : v = (t : Int) := iEq_t (not_f h)
      rw [show v = _ from hv] at he
      have he' : ((t / 256 % 16777216 : Nat) : Int) * 256 + (((t % 256 : Nat) : Int) - 1 + 1) = (t : Int) := he
      have hq : t / 256 % 16777216 = t / 256 := by omega
      rw [hq] at hh
      exact ⟨hq, hh⟩
  rintro z s1 ⟨e, ⟨hz, hh⟩ | ⟨hz, hq, hh⟩⟩
  · rw [e, hz]
    exact WP.ret ⟨((0 : Int), ((0 : Int), (false, ()))), rfl, rfl, hbad (P := True) hh⟩
  · rw [e, hz]
    refine WP.ret ⟨(((t / 256 % 16777216 : Nat) : Int), (((t % 256 : Nat) : Int) - 1, (true, ()))), rfl, rfl, ?_⟩
    unfold tagD; rw [if_pos hh, hq]; exact ⟨rfl, rfl, rfl⟩
end Go.Proofs.YtifgpgahbbbkpaaGreat

/- Contracts of recovery.Valid and of the reference's.
Conditions: none. -/
namespace Go.Proofs.YtifgpgahbbbkpaaGreat
set_option linter.unusedSimpArgs false
set_option linter.unusedSectionVars false
open Go Go.Ax
set_option linter.unusedVariables false
set_option maxRecDepth 100000

/-- The last tests of a recovery's job. -/
noncomputable def tailB (client inc lines dead door p q : Int) (ok : Bool) (prev : Int) : Int :=
  cond (iLt lines 98) 18 (cond (iLt 256 lines) 18 (cond (iEq dead client && !(iEq door inc)) 1 (cond (!(iEq dead client) && (iLt door 2 || (iLt 60 door || !(iEq (Int.tmod door 2) 0)))) 2
    (cond (!(iEq prev 0) && (!ok || (iEq q client && iLe inc p || iEq q dead && iLe door p))) 1 0))))
open Classical in
/-- Why a recovery cannot be done. -/
noncomputable def vRec (client inc lines number : Int) (ms : List Mem) (dead door : Int) (prev : Nat) : Int :=
  if tagE inc client ≠ 0 then tagE inc client else if ¬ cliP dead then 1 else if vView number 5 ms ≠ 0 then vView number 5 ms else
  tailB client inc lines dead door (tagD prev).1 (tagD prev).2.1 (tagD prev).2.2 (prev : Int)

abbrev jobC (client inc lines number : Int) (v : SV) (dead door : Int) (prev : Int) : List Value := [vI client, vI inc, vI lines, vI number, slV v, vI dead, vI door, vU prev]

theorem r15 (lf : Nat) (hlf : 2000 ≤ lf) (client inc lines number : Int) (v : SV) (ms : List Mem) (dead door : Int) (prev : Nat) (hp : prev < 18446744073709551616) (s : HS) (hm : ms.length ≤ 1100) (h : HoldM s v ms) :
    R13 lf 5 15 [.agg ⟨jobC client inc lines number v dead door (prev : Int)⟩] shI s fun x s' => x = vRec client inc lines number ms dead door prev ∧ Grow s s' := by
  refine Runs.of (fun call => d15 call lf client inc lines number v dead door (prev : Int)) (show env13.fn.get 15 = some Tryz.f15 by kernel_rfl) rfl (fun call => d15_eq call lf client inc lines number v dead door (prev : Int)) fun n hn => ?_
  refine WP.new ?_
  generalize hs0 : push s (bx 1 true false _) = s0
  have g0 : Grow s s0 := hs0 ▸ Grow.push s _
  have hc0 : s.c < s0.c := by rw [← hs0]; exact Nat.lt_succ_self _
  have b0 : ∀ {t}, Grow s0 t → t.h.get s.c = some (bx 1 true false (jobC client inc lines number v dead door (prev : Int))) := fun {t} g => by rw [g.keep _ hc0, ← hs0]; exact push_at _ _
  have rg := Grow.refl s0
  refine WP.field (sh := sI) (x := inc) (b0 rg) (Nat.le_of_ble_eq_true rfl) rfl fun _ => ?_
  refine WP.field (sh := sI) (x := client) (b0 rg) (Nat.le_of_ble_eq_true rfl) rfl fun _ => ?_
  refine WP.call (r48 lf inc client s0) (by omega) fun x s1 ⟨e, hx, _⟩ => ?_
  obtain ⟨x1, ec, _⟩ := x
  simp only at hx
  rw [e]
  refine WP.cond (fun hb => WP.ret ⟨ec, rfl, ?_, g0⟩) (fun hb => ?_)
  · have := iEq_f (not_t hb)
    unfold vRec; rw [if_pos (by rw [← hx]; exact this)]; exact hx
  have ht : ¬ (tagE inc client ≠ 0) := by rw [← hx]; exact Classical.not_not.2 (iEq_t (not_f hb))
  refine WP.chk (¬ cliP dead) 1 ?_ (fun hc => WP.ret ⟨(1 : Int), rfl, by unfold vRec; rw [if_neg ht, if_pos hc], g0⟩) (fun hc => ?_)
  · refine WP.field (sh := sI) (x := dead) (b0 rg) (Nat.le_of_ble_eq_true rfl) rfl fun _ => ?_
    refine WP.cond (fun hb => WP.ret ⟨rfl, .inr ⟨rfl, fun h => by have := iLt_t hb; have := h.1; omega⟩⟩) (fun hb1 => ?_)
    refine WP.field (sh := sI) (x := dead) (b0 rg) (Nat.le_of_ble_eq_true rfl) rfl fun _ => ?_
    exact WP.cond (fun hb => WP.ret ⟨rfl, .inr ⟨rfl, fun h => by have := iLe_t hb; have := h.2; omega⟩⟩) (fun hb2 => WP.ret ⟨rfl, .inl ⟨rfl, Classical.not_not.2 ⟨iLt_f hb1, iLe_f hb2⟩⟩⟩)
  refine WP.field (sh := .agg [.int .i64, .slice]) (x := (number, v, ())) (b0 rg) (Nat.le_of_ble_eq_true rfl) rfl fun _ => ?_
  refine WP.call (r49 lf hlf number 5 v ms s0 hm (h.grow g0)) (by omega) fun (x : Int) s1 ⟨hx2, g1⟩ => ?_
  have g := g0.trans g1
  refine WP.cond (fun hb => WP.ret ⟨x, rfl, ?_, g⟩) (fun hb => ?_)
  · have := iEq_f (not_t hb)
    unfold vRec; rw [if_neg ht, if_neg hc, if_pos (by rw [← hx2]; exact this)]; exact hx2
  have hv : ¬ (vView number 5 ms ≠ 0) := by rw [← hx2]; exact Classical.not_not.2 (iEq_t (not_f hb))
  have hspec : vRec client inc lines number ms dead door prev = tailB client inc lines dead door (tagD prev).1 (tagD prev).2.1 (tagD prev).2.2 (prev : Int) := by
    unfold vRec; rw [if_neg ht, if_neg hc, if_neg hv]
  rw [hspec]
  have b1 := b0 g1
  clear hb hx hx2 hspec ht hc hv b0
  refine WP.field (sh := sU) (x := (prev : Int)) b1 (Nat.le_of_ble_eq_true rfl) rfl fun _ => ?_
  refine WP.call (r50 lf prev hp s1) (by omega) fun x s2 ⟨e, t1, t2, t3⟩ => ?_
  obtain ⟨p, q, ok, _⟩ := x
  simp only at t1 t2 t3
  rw [e, ← t1, ← t2, ← t3]
  clear t1 t2 t3 e
  repeat' first
    | refine WP.field (sh := sI) b1 (Nat.le_of_ble_eq_true rfl) rfl (fun _ => ?_)
    | refine WP.field (sh := sU) b1 (Nat.le_of_ble_eq_true rfl) rfl (fun _ => ?_)
    | refine WP.cond (fun _ => ?_) (fun _ => ?_)
    | refine WP.ret ⟨_, rfl, ?_, g⟩
  all_goals (clear b1 g rg g0 g1; unfold tailB; first | (simp_all; done) | (simp_all; rfl))
end Go.Proofs.YtifgpgahbbbkpaaGreat

/- Contract of the reference's ValidRecover, and of own.
Conditions: none. -/
namespace Go.Proofs.YtifgpgahbbbkpaaGreat
set_option linter.unusedSimpArgs false
set_option linter.unusedSectionVars false
open Go Go.Ax
set_option linter.unusedVariables false
set_option maxRecDepth 100000

theorem r16 (lf : Nat) (hlf : 2000 ≤ lf) (client inc lines number : Int) (v : SV) (ms : List Mem) (dead door : Int) (prev : Nat) (hp : prev < 18446744073709551616) (s : HS) (hm : ms.length ≤ 1100) (h : HoldM s v ms) :
    R13 lf 5 16 [.agg ⟨jobC client inc lines number v dead door (prev : Int)⟩] shI s fun x s' => x = vRec client inc lines number ms dead door prev ∧ Grow s s' := by
  refine Runs.of (fun call => d16 call lf client inc lines number v dead door (prev : Int)) (show env13.fn.get 16 = some Tryz.f16 by kernel_rfl) rfl (fun call => d16_eq call lf client inc lines number v dead door (prev : Int)) fun n hn => ?_
  refine WP.new ?_
  generalize hs0 : push s (bx 1 true false _) = s0
  have g0 : Grow s s0 := hs0 ▸ Grow.push s _
  have hc0 : s.c < s0.c := by rw [← hs0]; exact Nat.lt_succ_self _
  have b0 : ∀ {t}, Grow s0 t → t.h.get s.c = some (bx 1 true false (jobC client inc lines number v dead door (prev : Int))) := fun {t} g => by rw [g.keep _ hc0, ← hs0]; exact push_at _ _
  have rg := Grow.refl s0
  refine WP.field (sh := sI) (x := inc) (b0 rg) (Nat.le_of_ble_eq_true rfl) rfl fun _ => ?_
  refine WP.field (sh := sI) (x := client) (b0 rg) (Nat.le_of_ble_eq_true rfl) rfl fun _ => ?_
  refine WP.call (r47 lf inc client s0) (by omega) fun x s1 ⟨e, hx, _⟩ => ?_
  obtain ⟨x1, ec, _⟩ := x
  simp only at hx
  rw [e]
  refine WP.cond (fun hb => WP.ret ⟨ec, rfl, ?_, g0⟩) (fun hb => ?_)
  · have := iEq_f (not_t hb)
    unfold vRec; rw [if_pos (by rw [← hx]; exact this)]; exact hx
  have ht : ¬ (tagE inc client ≠ 0) := by rw [← hx]; exact Classical.not_not.2 (iEq_t (not_f hb))
  refine WP.field (sh := sI) (x := dead) (b0 rg) (Nat.le_of_ble_eq_true rfl) rfl fun _ => ?_
  refine WP.call (r21 lf dead s0) (by omega) fun (x : Bool) s1 ⟨e, hcl⟩ => ?_
  rw [e]
  refine WP.cond (fun hb => WP.ret ⟨(1 : Int), rfl, ?_, g0⟩) (fun hb => ?_)
  · unfold vRec; rw [if_neg ht, if_pos (fun h => by rw [hcl.2 h] at hb; cases hb)]
  have hc : ¬ ¬ cliP dead := Classical.not_not.2 (hcl.1 (not_f hb))
  refine WP.field (sh := .agg [.int .i64, .slice]) (x := (number, v, ())) (b0 rg) (Nat.le_of_ble_eq_true rfl) rfl fun _ => ?_
  refine WP.call (r51 lf hlf number 5 v ms s0 hm (h.grow g0)) (by omega) fun (x : Int) s1 ⟨hx2, g1⟩ => ?_
  have g := g0.trans g1
  refine WP.cond (fun hb => WP.ret ⟨x, rfl, ?_, g⟩) (fun hb => ?_)
  · have := iEq_f (not_t hb)
    unfold vRec; rw [if_neg ht, if_neg hc, if_pos (by rw [← hx2]; exact this)]; exact hx2
  have hv : ¬ (vView number 5 ms ≠ 0) := by rw [← hx2]; exact Classical.not_not.2 (iEq_t (not_f hb))
  have hspec : vRec client inc lines number ms dead door prev = tailB client inc lines dead door (tagD prev).1 (tagD prev).2.1 (tagD prev).2.2 (prev : Int) := by
    unfold vRec; rw [if_neg ht, if_neg hc, if_neg hv]
  rw [hspec]
  have b1 := b0 g1
  clear hb hx hx2 hspec ht hc hv b0 hcl
  refine WP.chk ((iLt lines 98 || iLt 256 lines) = true) 18 ?_ (fun hc => WP.ret ⟨(18 : Int), rfl, ?_, g⟩) (fun hc1 => ?_)
  · repeat' first
      | refine WP.field (sh := sI) b1 (Nat.le_of_ble_eq_true rfl) rfl (fun _ => ?_)
      | refine WP.cond (fun _ => ?_) (fun _ => ?_)
      | refine WP.ret ⟨rfl, ?_⟩
    all_goals (clear b1 g rg g0 g1; simp_all)
  · clear b1 g rg g0 g1
    unfold tailB
    cases h1 : iLt lines 98 <;> cases h2 : iLt 256 lines <;> simp_all <;> rfl
  refine WP.chk ((iEq dead client && !(iEq door inc)) = true) 1 ?_ (fun hc => WP.ret ⟨(1 : Int), rfl, ?_, g⟩) (fun hc2 => ?_)
  · repeat' first
      | refine WP.field (sh := sI) b1 (Nat.le_of_ble_eq_true rfl) rfl (fun _ => ?_)
      | refine WP.cond (fun _ => ?_) (fun _ => ?_)
      | refine WP.ret ⟨rfl, ?_⟩
    all_goals (clear b1 g rg g0 g1; simp_all)
  · clear b1 g rg g0 g1
    unfold tailB
    simp only [Bool.not_eq_true, Bool.or_eq_false_iff] at hc1
    rw [hc1.1, hc1.2, hc]; rfl
  refine WP.chk ((!(iEq dead client) && (iLt door 2 || (iLt 60 door || !(iEq (Int.tmod door 2) 0)))) = true) 2 ?_ (fun hc => WP.ret ⟨(2 : Int), rfl, ?_, g⟩) (fun hc3 => ?_)
  · repeat' first
      | refine WP.field (sh := sI) b1 (Nat.le_of_ble_eq_true rfl) rfl (fun _ => ?_)
      | refine WP.cond (fun _ => ?_) (fun _ => ?_)
      | refine WP.ret ⟨rfl, ?_⟩
    all_goals (clear b1 g rg g0 g1; simp_all)
  · clear b1 g rg g0 g1
    unfold tailB
    simp only [Bool.not_eq_true, Bool.or_eq_false_iff] at hc1
    rw [hc1.1, hc1.2, show (iEq dead client && !(iEq door inc)) = false by simpa using hc2, hc]; rfl
  refine WP.field (sh := sU) (x := (prev : Int)) b1 (Nat.le_of_ble_eq_true rfl) rfl fun _ => ?_
  refine WP.call (r52 lf prev hp s1) (by omega) fun x s2 ⟨e, t1, t2, t3⟩ => ?_
  obtain ⟨p, q, ok, _⟩ := x
  simp only at t1 t2 t3
  rw [e, ← t1, ← t2, ← t3]
  clear t1 t2 t3 e
  have ht : tailB client inc lines dead door p q ok (prev : Int) = cond (!(iEq (prev : Int) 0) && (!ok || (iEq q client && iLe inc p || iEq q dead && iLe door p))) 1 0 := by
    unfold tailB
    simp only [Bool.not_eq_true, Bool.or_eq_false_iff] at hc1
    rw [hc1.1, hc1.2, show (iEq dead client && !(iEq door inc)) = false by simpa using hc2, show (!(iEq dead client) && (iLt door 2 || (iLt 60 door || !(iEq (Int.tmod door 2) 0)))) = false by simpa using hc3]; rfl
  rw [ht]
  clear ht hc1 hc2 hc3
  repeat' first
    | refine WP.field (sh := sI) b1 (Nat.le_of_ble_eq_true rfl) rfl (fun _ => ?_)
    | refine WP.field (sh := sU) b1 (Nat.le_of_ble_eq_true rfl) rfl (fun _ => ?_)
    | refine WP.cond (fun _ => ?_) (fun _ => ?_)
    | refine WP.ret ⟨_, rfl, ?_, g⟩
  all_goals (clear b1 g rg g0 g1; first | (simp_all; done) | (simp_all; rfl))

abbrev shJ : S2 := .agg [.int .i64, .int .i64, .int .i64, .int .i64, .slice, .int .i64, .int .i64, .int .u64]
theorem r17 (lf : Nat) (client inc lines number : Int) (v : SV) (dead door prev : Int) (s : HS) :
    R13 lf 1 17 [.agg ⟨jobC client inc lines number v dead door prev⟩] (.v shJ) s fun x s' => x = (client, inc, lines, number, v, dead, door, prev, ()) ∧ Grow s s' := by
  refine Runs.of (fun call => d17 call lf client inc lines number v dead door prev) (show env13.fn.get 17 = some Tryz.f17 by kernel_rfl) rfl (fun call => d17_eq call lf client inc lines number v dead door prev) fun n hn => ?_
  refine WP.new (WP.new ?_)
  generalize hB0 : bx 1 true false [vI client, vI inc, vI lines, vI number, slV v, vI dead, vI door, vU prev] = B0
  have hc1 : (push s B0).c = s.c + 1 := rfl
  rw [hc1]
  generalize hs0 : push (push s B0) _ = s0
  have g0 : Grow s s0 := hs0 ▸ ((Grow.push s _).then_push _)
  have b0 : s0.h.get s.c = some (bx 1 true false (jobC client inc lines number v dead door prev)) := by rw [← hs0, push_get, if_neg (by rw [hc1]; omega), push_at, ← hB0]
  have b1 : s0.h.get (s.c + 1) = some (bx 1 true false [vI 0, vI 0, vI 0, vI 0, .slice none 0 0, vI 0, vI 0, vU 0]) := by rw [← hs0, push_get, if_pos hc1.symm]
  refine WP.field (sh := sI) (x := client) b0 (Nat.le_of_ble_eq_true rfl) rfl fun _ => ?_
  refine WP.field (sh := sI) (x := inc) b0 (Nat.le_of_ble_eq_true rfl) rfl fun _ => ?_
  refine WP.field (sh := sI) (x := lines) b0 (Nat.le_of_ble_eq_true rfl) rfl fun _ => ?_
  refine WP.field (sh := .agg [.int .i64, .slice]) (x := (number, v, ())) b0 (Nat.le_of_ble_eq_true rfl) rfl fun _ => ?_
  refine WP.field (sh := sI) (x := dead) b0 (Nat.le_of_ble_eq_true rfl) rfl fun _ => ?_
  refine WP.field (sh := sI) (x := door) b0 (Nat.le_of_ble_eq_true rfl) rfl fun _ => ?_
  refine WP.field (sh := sU) (x := prev) b0 (Nat.le_of_ble_eq_true rfl) rfl fun _ => ?_
  refine WP.st b1 rfl (Nat.le_of_ble_eq_true rfl) ?_
  refine WP.ld (sh := shJ) (x := (client, inc, lines, number, v, dead, door, prev, ())) (es := 1) (ti := true) (ro := false) (L := jobC client inc lines number v dead door prev) (by rw [upd_get, if_pos rfl]; rfl) (Nat.le_of_ble_eq_true rfl) rfl ?_
  exact WP.ret ⟨(client, inc, lines, number, v, dead, door, prev, ()), rfl, rfl, g0.upd (by omega) _⟩
end Go.Proofs.YtifgpgahbbbkpaaGreat
