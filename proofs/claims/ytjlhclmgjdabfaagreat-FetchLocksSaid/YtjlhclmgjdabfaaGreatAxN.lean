/- Numbers: masks, shifts and words of 64 bits, as the printed code has them.
Conditions: none. -/
import Derived.Test.YtjlhclmgjdabfaaGreatAxMa
namespace Go.Ax
set_option linter.unusedSimpArgs false
set_option linter.unusedSectionVars false
set_option linter.unusedVariables false

theorem natK_u64 {n : Nat} (h : n < 18446744073709551616) : natK .u64 (n : Int) = n := Nat.mod_eq_of_lt h
theorem natK_i64 {n : Nat} (h : n < 18446744073709551616) : natK .i64 (n : Int) = n := Nat.mod_eq_of_lt h
theorem signK_u64 {n : Nat} (h : n < 18446744073709551616) : signK .u64 n = (n : Int) := by
  show (match Nat.blt n 18446744073709551616 with
    | true => force n Int.ofNat
    | false => _) = _
  rw [nblt, decide_eq_true h]
  exact force_eq n _
theorem signK_i64 {n : Nat} (h : n < 9223372036854775808) : signK .i64 n = (n : Int) := by
  show (match Nat.blt n 9223372036854775808 with
    | true => force n Int.ofNat
    | false => _) = _
  rw [nblt, decide_eq_true h]
  exact force_eq n _
theorem wrap_u64n {n : Nat} (h : n < 18446744073709551616) : wrapK .u64 (n : Int) = (n : Int) := by
  show signK .u64 (natK .u64 (n : Int)) = _
  rw [natK_u64 h, signK_u64 h]
theorem land_mask (n k : Nat) : Nat.land n (2 ^ k - 1) = n % 2 ^ k := Nat.and_two_pow_sub_one_eq_mod n k
theorem land_255 (n : Nat) : Nat.land n 255 = n % 256 := land_mask n 8
theorem land_1 (n : Nat) : Nat.land n 1 = n % 2 := land_mask n 1
theorem lor_add {a b k : Nat} (h : b < 2 ^ k) : Nat.lor (a * 2 ^ k) b = a * 2 ^ k + b := by
  rw [Nat.mul_comm]
  exact (Nat.two_pow_add_eq_or_of_lt h a).symm
theorem lor_256 {a b : Nat} (h : b < 256) : Nat.lor (a * 256) b = a * 256 + b := lor_add (k := 8) h

theorem arM_shr_nat {k k' : IntKind} (a b : Nat) (hb : b ≤ bitsOf k) (s : HS) : arM .shr k (a : Int) k' (b : Int) s = some (((a / 2 ^ b : Nat) : Int), s) := by
  unfold arM
  show M.bind (M.ofO (match Nat.ble b (bitsOf k) with
    | true => ofI k (force (shrN a b) Int.ofNat)
    | false => ofI k (force (shrN a (bitsOf k)) Int.ofNat))) (fun v => M.ofO (S1.un (.int k) v)) s = _
  rw [nble, decide_eq_true hb]
  show M.ofO (S1.un (.int k) (.int k (force (shrN a b) Int.ofNat))) s = _
  rw [force_eq]
  show M.ofO (match nEq k k with | true => some (Int.ofNat (shrN a b)) | false => none) s = _
  rw [(nEq_iff k k).2 rfl]; rfl
theorem arM_shl_nat {k' : IntKind} (a b : Nat) (hb : b ≤ 64) (h : a * 2 ^ b < 18446744073709551616) (s : HS) : arM .shl .u64 (a : Int) k' (b : Int) s = some (((a * 2 ^ b : Nat) : Int), s) := by
  unfold arM
  show M.bind (M.ofO (match Nat.ble b (bitsOf .u64) with
    | true => ofI .u64 (signK .u64 (Nat.mod (shlN a b) (modK .u64)))
    | false => ofI .u64 0)) (fun v => M.ofO (S1.un (.int .u64) v)) s = _
  rw [nble, decide_eq_true (show b ≤ bitsOf .u64 from hb)]
  show M.ofO (S1.un (.int .u64) (.int .u64 (signK .u64 ((a * 2 ^ b) % 18446744073709551616)))) s = _
  rw [Nat.mod_eq_of_lt h, signK_u64 h]; rfl


/-- A test that may end the function with a code. -/
theorem WP.chk {R : Type} {s : HS} {Q : R → HS → Prop} {t : Tr (Unit ⊕ (Int × Unit))} {k : (Unit ⊕ (Int × Unit)) → Tr R} (C : Prop) (e : Int)
    (h : WP t s fun z s' => s' = s ∧ ((z = .inl () ∧ ¬ C) ∨ (z = .inr (e, ()) ∧ C))) (h1 : C → WP (k (.inr (e, ()))) s Q) (h2 : ¬ C → WP (k (.inl ())) s Q) : WP (.bind t k) s Q := by
  refine WP.bind h ?_
  rintro z s' ⟨hs, ⟨hz, hc⟩ | ⟨hz, hc⟩⟩
  · rw [hs, hz]; exact h2 hc
  · rw [hs, hz]; exact h1 hc

theorem WP.newW {R : Type} {s : HS} {Q : R → HS → Prop} {l : List Value} {k : (Nat × List Nat) → Nat → List Nat → Tr R} (h : WP (k (s.c, s.log) s.c []) (push s (bx 1 true false l)) Q) :
    WP (.op begW fun q => .op (newM l) fun b => .op (endW q.2) (k q b)) s Q := by
  refine WP.op (m := begW) (b := (s.c, s.log)) (s1 := noLog s) rfl ?_
  refine WP.op (newM_run l (noLog s)) ?_
  exact WP.op (m := endW s.log) (b := []) (s1 := push s (bx 1 true false l)) rfl h
end Go.Ax
