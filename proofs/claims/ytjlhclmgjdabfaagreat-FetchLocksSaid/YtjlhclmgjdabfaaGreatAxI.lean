/- The abstract executor: its operations on integers, bools and strings are the model's.
Conditions: none. -/
import Derived.Calls
import Derived.Test.YtjlhclmgjdabfaaGreatAxC
namespace Go.Ax
set_option linter.unusedVariables false
set_option linter.unusedSimpArgs false
set_option linter.unusedSectionVars false

theorem wrap_s (k : IntKind) (h : k.signed = true) (n : Int) : k.wrap n = if (2 ^ (k.bits - 1) : Int) ≤ n % (2 ^ k.bits : Int) then n % (2 ^ k.bits : Int) - (2 ^ k.bits : Int) else n % (2 ^ k.bits : Int) := by
  unfold IntKind.wrap
  simp only [h, Bool.true_and, decide_eq_true_eq, ge_iff_le]
theorem wrap_u (k : IntKind) (h : k.signed = false) (n : Int) : k.wrap n = n % (2 ^ k.bits : Int) := by
  unfold IntKind.wrap
  simp only [h, Bool.false_and, Bool.false_eq_true, if_false]

theorem wrap_nat (k : IntKind) (n : Nat) (h : n < modK k) : signK k n = k.wrap (n : Int) := by
  have key : signK k n = if n < halfK k then (n : Int) else Int.negSucc (Nat.pred (Nat.sub (modK k) n)) := by
    unfold signK
    rw [nblt]
    by_cases hh : n < halfK k
    · rw [decide_eq_true hh, if_pos hh]; exact force_eq _ _
    · rw [decide_eq_false hh, if_neg hh]; exact force_eq _ _
  have e8 : (2 : Int) ^ 8 = 256 := rfl
  have e16 : (2 : Int) ^ 16 = 65536 := rfl
  have e32 : (2 : Int) ^ 32 = 4294967296 := rfl
  have e64 : (2 : Int) ^ 64 = 18446744073709551616 := rfl
  have e7 : (2 : Int) ^ 7 = 128 := rfl
  have e15 : (2 : Int) ^ 15 = 32768 := rfl
  have e31 : (2 : Int) ^ 31 = 2147483648 := rfl
  have e63 : (2 : Int) ^ 63 = 9223372036854775808 := rfl
  rw [key]
  clear key
  cases k
  case i8 =>
    rw [wrap_s _ rfl, show IntKind.bits .i8 = 8 from rfl, show (8 - 1 : Nat) = 7 from rfl, e8, e7]
    by_cases a : n < halfK .i8
    · rw [if_pos a]; simp only [halfK, modK] at a h; rw [if_neg (by omega)]; omega
    · rw [if_neg a]; simp only [halfK, modK, Nat.pred_eq_sub_one, Nat.sub_eq] at a h ⊢; rw [if_pos (by omega)]; omega
  case i16 =>
    rw [wrap_s _ rfl, show IntKind.bits .i16 = 16 from rfl, show (16 - 1 : Nat) = 15 from rfl, e16, e15]
    by_cases a : n < halfK .i16
    · rw [if_pos a]; simp only [halfK, modK] at a h; rw [if_neg (by omega)]; omega
    · rw [if_neg a]; simp only [halfK, modK, Nat.pred_eq_sub_one, Nat.sub_eq] at a h ⊢; rw [if_pos (by omega)]; omega
  case i32 =>
    rw [wrap_s _ rfl, show IntKind.bits .i32 = 32 from rfl, show (32 - 1 : Nat) = 31 from rfl, e32, e31]
    by_cases a : n < halfK .i32
    · rw [if_pos a]; simp only [halfK, modK] at a h; rw [if_neg (by omega)]; omega
    · rw [if_neg a]; simp only [halfK, modK, Nat.pred_eq_sub_one, Nat.sub_eq] at a h ⊢; rw [if_pos (by omega)]; omega
  case i64 =>
    rw [wrap_s _ rfl, show IntKind.bits .i64 = 64 from rfl, show (64 - 1 : Nat) = 63 from rfl, e64, e63]
    by_cases a : n < halfK .i64
    · rw [if_pos a]; simp only [halfK, modK] at a h; rw [if_neg (by omega)]; omega
    · rw [if_neg a]; simp only [halfK, modK, Nat.pred_eq_sub_one, Nat.sub_eq] at a h ⊢; rw [if_pos (by omega)]; omega
  case u8 =>
    rw [wrap_u _ rfl, show IntKind.bits .u8 = 8 from rfl, e8, if_pos (show n < halfK .u8 from h)]
    simp only [modK] at h; omega
  case u16 =>
    rw [wrap_u _ rfl, show IntKind.bits .u16 = 16 from rfl, e16, if_pos (show n < halfK .u16 from h)]
    simp only [modK] at h; omega
  case u32 =>
    rw [wrap_u _ rfl, show IntKind.bits .u32 = 32 from rfl, e32, if_pos (show n < halfK .u32 from h)]
    simp only [modK] at h; omega
  case u64 =>
    rw [wrap_u _ rfl, show IntKind.bits .u64 = 64 from rfl, e64, if_pos (show n < halfK .u64 from h)]
    simp only [modK] at h; omega

theorem natK_lt (k : IntKind) (x : Int) : natK k x < modK k := by
  unfold natK
  cases x with
  | ofNat n => cases k <;> simp only [modK] <;> exact Nat.mod_lt _ (by decide)
  | negSucc n => cases k <;> simp only [modK, Nat.sub_eq] <;> omega

theorem natK_emod (k : IntKind) (x : Int) : (natK k x : Int) = x % (2 ^ k.bits : Int) := by
  unfold natK
  cases x with
  | ofNat n => cases k <;> simp only [modK, IntKind.bits, Int.reducePow, Int.ofNat_eq_natCast] <;> (show ((n % _ : Nat) : Int) = _) <;> omega
  | negSucc n => cases k <;> simp only [modK, IntKind.bits, Int.reducePow, Nat.sub_eq] <;> (show ((_ - Nat.succ (n % _) : Nat) : Int) = _) <;> omega

theorem wrap_emod (k : IntKind) (x : Int) : k.wrap (x % (2 ^ k.bits : Int)) = k.wrap x := by
  unfold IntKind.wrap
  rw [Int.emod_emod_of_dvd _ (Int.dvd_refl _)]

theorem wrapK_eq (k : IntKind) (x : Int) : wrapK k x = k.wrap x := by
  unfold wrapK
  rw [wrap_nat k _ (natK_lt k x), natK_emod, wrap_emod]

theorem modK_eq (k : IntKind) : modK k = 2 ^ k.bits := by cases k <;> rfl
theorem bitsOf_eq (k : IntKind) : bitsOf k = k.bits := by cases k <;> rfl

theorem toNat_ofInt (k : IntKind) (x : Int) : (BitVec.ofInt k.bits x).toNat = natK k x := by
  rw [BitVec.toNat_ofInt]
  have := natK_emod k x
  have h2 : ((2 ^ k.bits : Nat) : Int) = (2 : Int) ^ k.bits := by cases k <;> rfl
  rw [h2, ← this]; rfl

theorem land_lt (k : IntKind) (a b : Nat) (h : a < modK k) : Nat.land a b < modK k := by
  have : Nat.land a b ≤ a := Nat.and_le_left
  omega
theorem lor_lt (k : IntKind) (a b : Nat) (ha : a < modK k) (hb : b < modK k) : Nat.lor a b < modK k := by
  rw [modK_eq] at *; exact Nat.or_lt_two_pow ha hb
theorem xor_lt (k : IntKind) (a b : Nat) (ha : a < modK k) (hb : b < modK k) : Nat.xor a b < modK k := by
  rw [modK_eq] at *; exact Nat.xor_lt_two_pow ha hb

section
variable {P : Program} {w : World}

theorem run_pure {α : Type} (a : α) : (Sem.pure a : Sem α).run P w = .ok a w := rfl
theorem run_pure' {α : Type} (a : α) : (pure a : Sem α).run P w = .ok a w := rfl

/-- Integer operations. -/
theorem binI_run (op : BinOp) (k : IntKind) (x y : Int) (v : Value) (t : TypeId) (h : binI op k x y = some v) (h1 : op ≠ .shl) (h2 : op ≠ .shr) :
    (binOp op t (.int k x) (.int k y)).run P w = .ok v w := by
  have hk : ¬ (k ≠ k) := fun h => h rfl
  cases op <;> simp only [binI, ofI, ofB, wrapK_eq, iEq_eq, iLt_eq, iLe_eq] at h <;>
    (try (injection h with h; subst h)) <;> (try (exact absurd rfl h1)) <;> (try (exact absurd rfl h2))
  case add => simp only [binOp, if_neg hk, Op.intArith]; rfl
  case sub => simp only [binOp, if_neg hk, Op.intArith]; rfl
  case mul => simp only [binOp, if_neg hk, Op.intArith]; rfl
  case quo =>
    by_cases h0 : y = 0
    · rw [decide_eq_true h0] at h; cases h
    · rw [decide_eq_false h0] at h; injection h with h; subst h
      simp only [binOp, if_neg hk, Op.intDiv, if_neg h0]; rfl
  case rem =>
    by_cases h0 : y = 0
    · rw [decide_eq_true h0] at h; cases h
    · rw [decide_eq_false h0] at h; injection h with h; subst h
      simp only [binOp, if_neg hk, Op.intDiv, if_neg h0]; rfl
  case and =>
    simp only [binOp, if_neg hk, Op.intBits]
    rw [wrap_nat k _ (land_lt k _ _ (natK_lt k x)), run_pure', BitVec.toNat_and, toNat_ofInt, toNat_ofInt]; rfl
  case or =>
    simp only [binOp, if_neg hk, Op.intBits]
    rw [wrap_nat k _ (lor_lt k _ _ (natK_lt k x) (natK_lt k y)), run_pure', BitVec.toNat_or, toNat_ofInt, toNat_ofInt]; rfl
  case xor =>
    simp only [binOp, if_neg hk, Op.intBits]
    rw [wrap_nat k _ (xor_lt k _ _ (natK_lt k x) (natK_lt k y)), run_pure', BitVec.toNat_xor, toNat_ofInt, toNat_ofInt]; rfl
  case andNot =>
    simp only [binOp, if_neg hk, Op.intBits]
    rw [wrap_nat k _ (land_lt k _ _ (natK_lt k x)), run_pure', BitVec.toNat_and, BitVec.toNat_not, toNat_ofInt, toNat_ofInt, modK_eq]; rfl
  case eql => simp only [binOp, if_neg hk, Op.intCmp]; rw [run_pure']; congr 2
  case neq => simp only [binOp, if_neg hk, Op.intCmp]; rw [run_pure']; congr 2
  case lss => simp only [binOp, if_neg hk, Op.intCmp]; rw [run_pure']
  case leq => simp only [binOp, if_neg hk, Op.intCmp]; rw [run_pure']
  case gtr => simp only [binOp, if_neg hk, Op.intCmp]; rw [run_pure']
  case geq => simp only [binOp, if_neg hk, Op.intCmp]; rw [run_pure']

theorem shl_run (k k' : IntKind) (a b : Nat) (t : TypeId) : (binOp .shl t (.int k (a : Int)) (.int k' (b : Int))).run P w = .ok (.int k (k.wrap ((a : Int) * 2 ^ (min b k.bits)))) w := by
  have hb : ¬ (((b : Nat) : Int) < 0) := by omega
  show Sem.run P (Op.shift .shl k (a : Int) k' (b : Int)) w = _
  unfold Op.shift
  rw [if_neg hb]; rfl
theorem shr_run (k k' : IntKind) (a b : Nat) (t : TypeId) : (binOp .shr t (.int k (a : Int)) (.int k' (b : Int))).run P w = .ok (.int k ((a : Int).fdiv (2 ^ (min b k.bits)))) w := by
  have hb : ¬ (((b : Nat) : Int) < 0) := by omega
  show Sem.run P (Op.shift .shr k (a : Int) k' (b : Int)) w = _
  unfold Op.shift
  rw [if_neg hb]; rfl

theorem pow_cast (n : Nat) : ((2 ^ n : Nat) : Int) = (2 : Int) ^ n := by rw [Int.natCast_pow]; rfl

theorem shI_run (op : BinOp) (k : IntKind) (x : Int) (k' : IntKind) (y : Int) (v : Value) (t : TypeId) (h : shI op k x y = some v) (hop : op = .shl ∨ op = .shr) :
    (binOp op t (.int k x) (.int k' y)).run P w = .ok v w := by
  cases x with
  | negSucc a => simp [shI] at h
  | ofNat a => cases y with
    | negSucc b => simp [shI] at h
    | ofNat b =>
      have hm : modK k > 0 := by cases k <;> decide
      rcases hop with rfl | rfl
      · rw [show (Int.ofNat a) = (a : Int) from rfl, show (Int.ofNat b) = (b : Int) from rfl, shl_run]
        have h' : (match Nat.ble b (bitsOf k) with | true => ofI k (signK k (Nat.mod (shlN a b) (modK k))) | false => ofI k 0) = some v := h
        rw [nble, bitsOf_eq] at h'
        by_cases hle : b ≤ k.bits
        · rw [decide_eq_true hle] at h'
          injection h' with h'
          subst h'
          rw [Nat.min_eq_left hle, wrap_nat k ((shlN a b).mod (modK k)) (Nat.mod_lt _ hm)]
          have e : k.wrap ((a : Int) * 2 ^ b) = k.wrap (((shlN a b).mod (modK k) : Nat) : Int) := by
            rw [← wrap_emod k ((a : Int) * 2 ^ b)]
            congr 1
            show _ = (((a * 2 ^ b) % modK k : Nat) : Int)
            rw [modK_eq, Int.natCast_emod, Int.natCast_mul, pow_cast, pow_cast]
          rw [e]
        · rw [decide_eq_false hle] at h'
          injection h' with h'
          subst h'
          rw [Nat.min_eq_right (by omega)]
          have e : k.wrap ((a : Int) * 2 ^ k.bits) = 0 := by
            rw [← wrap_emod k ((a : Int) * 2 ^ k.bits), Int.mul_emod_left]
            cases k <;> rfl
          rw [e]
      · rw [show (Int.ofNat a) = (a : Int) from rfl, show (Int.ofNat b) = (b : Int) from rfl, shr_run]
        have key : ∀ n : Nat, ((a : Int).fdiv (2 ^ n)) = ((a / 2 ^ n : Nat) : Int) := by
          intro n
          rw [← pow_cast, Int.fdiv_eq_ediv_of_nonneg _ (Int.natCast_nonneg _)]; rfl
        have h' : (match Nat.ble b (bitsOf k) with | true => ofI k (force (shrN a b) Int.ofNat) | false => ofI k (force (shrN a (bitsOf k)) Int.ofNat)) = some v := h
        rw [nble, bitsOf_eq] at h'
        by_cases hle : b ≤ k.bits
        · rw [decide_eq_true hle] at h'
          injection h' with h'
          subst h'
          rw [Nat.min_eq_left hle, key, force_eq]; rfl
        · rw [decide_eq_false hle] at h'
          injection h' with h'
          subst h'
          rw [Nat.min_eq_right (by omega), key, force_eq]; rfl

theorem binII_run (op : BinOp) (k : IntKind) (x : Int) (k' : IntKind) (y : Int) (v : Value) (t : TypeId) (h : binII op k x k' y = some v) :
    (binOp op t (.int k x) (.int k' y)).run P w = .ok v w := by
  by_cases h1 : op = .shl
  · subst h1; exact shI_run _ _ _ _ _ _ _ h (.inl rfl)
  by_cases h2 : op = .shr
  · subst h2
    have h' : shI .shl k x y = some v ∨ shI .shr k x y = some v ∨ True := .inr (.inr trivial)
    refine shI_run _ _ _ _ _ _ _ ?_ (.inr rfl)
    revert h; unfold binII; exact id
  have h3 : (match nEq k k' with | true => binI op k x y | false => none) = some v := by
    revert h; unfold binII; cases op <;> first | exact id | exact absurd rfl h1 | exact absurd rfl h2
  cases hk : nEq k k' with
  | false => rw [hk] at h3; cases h3
  | true =>
    rw [hk] at h3
    obtain rfl := (nEq_iff k k').1 hk
    exact binI_run op k x y v t h3 h1 h2

theorem listEqB_nil (m : List UInt8) : listEqB [] m = decide (m = []) := by cases m <;> rfl
theorem listEqB_eq (l : List UInt8) : ∀ m, listEqB l m = decide (l = m) := by
  induction l with
  | nil => intro m; cases m <;> rfl
  | cons x l ih =>
    intro m
    cases m with
    | nil => rfl
    | cons y m =>
      show (match Nat.beq x.toNat y.toNat with | true => listEqB l m | false => false) = _
      rw [T.nbeq, ih]
      by_cases hxy : x = y
      · subst hxy; simp
      · rw [decide_eq_false (fun h => hxy (UInt8.toNat_inj.1 h))]; simp [hxy]
end
end Go.Ax
