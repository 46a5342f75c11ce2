/- The abstract executor: its operations stand for the model's: conversions, composites, slices, parts.
Conditions: none. -/
import Derived.Test.YtjlhclmgjdabfaaGreatAxS2
namespace Go.Ax
set_option linter.unusedVariables false
set_option linter.unusedSimpArgs false
set_option linter.unusedSectionVars false
open Go.RowKit (Below)

section
variable {P : Program} {w0 : Base} {φ : Map} {tm : T Value} {a : Act} {env : Env}

theorem sim_un (ht : TR φ tm a.tmps) (op : UnOp) (x : Operand) (call : CallH) :
    Sim P w0 φ (opUn op x env call tm) (do Pure.pure (.value (← Op.unary op (a.eval x))) : Sem Next) RNext := by
  unfold opUn
  refine Sim.withO fun u hu => Sim.value (Sim.ofO fun r hr => ?_)
  have hru := ev_VR ht hu
  unfold unV at hr
  split at hr
  · rename_i b
    rw [hru.bool_inv]
    simp only [ofB, Option.some.injEq] at hr; subst hr
    exact Sim.pure (VR.bool _)
  · rename_i k n
    rw [hru.int_inv]
    simp only [ofI, Option.some.injEq] at hr; subst hr
    rw [wrapK_eq]
    exact Sim.pure (VR.int _ _)
  · rename_i n
    rw [hru.int_inv]
    simp only [ofI, Option.some.injEq] at hr; subst hr
    refine Sim.congr (d := Pure.pure (Value.int .u64 (signK .u64 (Nat.sub 18446744073709551615 (natK .u64 n))))) (fun w => ?_) (Sim.pure (VR.int _ _))
    have hlt : Nat.sub 18446744073709551615 (natK .u64 n) < modK .u64 := by simp only [modK, Nat.sub_eq]; omega
    rw [wrap_nat .u64 _ hlt]
    show Sem.run P (Op.intBits .xor .u64 (if IntKind.signed .u64 = true then -1 else IntKind.max .u64) n) w = _
    unfold Op.intBits
    simp only [IntKind.signed, Bool.false_eq_true, if_false]
    rw [Sem.run_pure, Sem.run_pure]
    have e : BitVec.ofInt (IntKind.bits .u64) (IntKind.max .u64) = BitVec.allOnes 64 := by show BitVec.ofInt 64 (18446744073709551616 - 1) = BitVec.allOnes 64; decide
    have e2 : (BitVec.ofInt (IntKind.bits .u64) (IntKind.max .u64) ^^^ BitVec.ofInt (IntKind.bits .u64) n).toNat = Nat.sub 18446744073709551615 (natK .u64 n) := by
      rw [e]
      show (BitVec.allOnes 64 ^^^ BitVec.ofInt 64 n).toNat = _
      rw [BitVec.allOnes_xor, BitVec.toNat_not, show (BitVec.ofInt 64 n).toNat = natK .u64 n from toNat_ofInt .u64 n]
      rfl
    rw [e2]
  · cases hr

theorem sim_func (ht : TR φ tm a.tmps) (fn : Fn) (first captured : Array Operand) (call : CallH) :
    Sim P w0 φ (opFunc fn first captured env call tm) (do Pure.pure (.value (← Instr.makeFunc fn (first.map a.eval) (captured.map a.eval))) : Sem Next) RNext := by
  unfold opFunc
  split
  · refine Sim.withO fun xs hxs => Sim.withO fun ys hys => Sim.value ?_
    have h1 := evs_VR ht hxs
    have h2 := evs_VR ht hys
    have e1 : first.map a.eval = ⟨first.toList.map a.eval⟩ := by apply Array.ext'; simp
    have e2 : captured.map a.eval = ⟨captured.toList.map a.eval⟩ := by apply Array.ext'; simp
    unfold Instr.makeFunc
    rw [e1, e2]
    exact Sim.pure (.func _ _ _ _ _ h1 h2)
  · exact Sim.fail

theorem sim_part (hE : EnvOK P env) {t : TypeId} {te : TI} (hte : env.ty.get t = some te) {cs ds : List Value} (h : VRs φ cs ds) (off : Nat) :
    Sim P w0 φ (partV te off cs) (part t ⟨ds⟩ off) RVal := by
  have hT := hE.ty _ _ hte
  unfold part
  refine Sim.look hT.runA ?_
  unfold partV
  cases hagg : isAggD te.desc with
  | true =>
    simp only [if_true]
    refine Sim.look hT.runS (Sim.pure ?_)
    rw [takeL_eq, dropL_eq]
    have : (⟨ds⟩ : Array Value).extract off (off + te.size) = ⟨(ds.drop off).take te.size⟩ := by
      apply Array.ext'; simp
    rw [this]
    exact .agg _ _ ((h.drop off).take te.size)
  | false =>
    simp only [Bool.false_eq_true, if_false]
    refine Sim.ofO fun v hv => ?_
    rw [nthL_eq] at hv
    obtain ⟨u, hu, hr⟩ := h.get hv
    have : (⟨ds⟩ : Array Value)[off]? = some u := by simpa using hu
    rw [this]
    exact Sim.pure hr

theorem sim_fieldOf (t : TypeId) (i : Nat) {k : Field → TI → M Value} {d : Array Field → Sem Value} {e : Sem Value}
    (h : ∀ ti fs f te, env.ty.get t = some ti → ti.desc = .struct fs → fs[i]? = some f → env.ty.get f.type = some te → Sim P w0 φ (k f te) (d fs) RVal)
    (hd : ∀ ti, env.ty.get t = some ti → ∀ w fs, ti.desc = .struct fs → e.run P w = (d fs).run P w) :
    Sim P w0 φ (fieldOf env t i k) e RVal := by
  unfold fieldOf
  refine Sim.withO fun ti hti => ?_
  split
  · rename_i fs hfs
    unfold fldK
    split
    · exact Sim.fail
    · rename_i f hf
      refine Sim.withO fun te hte => ?_
      rw [nthL_eq] at hf
      refine Sim.congr (fun w => hd ti hti w fs hfs) (h ti fs f te hti hfs (by simpa using hf) hte)
  · exact Sim.fail

theorem sim_fieldAddr (hE : EnvOK P env) (ht : TR φ tm a.tmps) (t : TypeId) (x : Operand) (i : Nat) (call : CallH) :
    Sim P w0 φ (opFieldAddr t x i env call tm) (do Pure.pure (.value (← Instr.fieldAt t (a.eval x) i)) : Sem Next) RNext := by
  unfold opFieldAddr
  refine Sim.value ?_
  refine sim_fieldOf t i (d := fun fs => do
      let some f := fs[i]? | stuck "fieldAddr: no such field"
      let a ← Instr.sureAddr (a.eval x)
      Pure.pure (.pointer (some (← fieldPlace a f)))) (fun ti fs f te hti hfs hf hte => ?_) (fun ti hti w fs hfs => ?_)
  · simp only [hf]
    split
    · exact Sim.fail
    · rename_i hz
      rw [T.nbeq, decide_eq_false_iff_not] at hz
      refine Sim.withO fun v hv => ?_
      have hr := ev_VR ht hv
      unfold ptrK
      split
      · rename_i y
        obtain ⟨b, off, p, rfl, hp, hy⟩ := ptr_spot hr
        rw [hy]
        refine Sim.look (x := Instr.sureAddr _) (fun _ => rfl) ?_
        unfold fieldPlace
        have hS := (hE.ty _ _ hte).runS
        refine Sim.congr (d := Pure.pure (.pointer (some ((⟨p.blk, p.base + off, none⟩ : Addr).add f.offset)))) (fun w => ?_) ?_
        · simp only [Sem.run_bind, hS, Result.andThen_ok]
          rw [if_neg hz]; rfl
        · rw [at_add p f.offset p.blk off rfl]
          exact Sim.pure (VR.ptr b (off + f.offset) p hp)
      · exact Sim.fail
  · unfold Instr.fieldAt
    rw [Sem.run_bind, (hE.ty _ _ hti).runU, hfs]; rfl

theorem sim_field (hE : EnvOK P env) (ht : TR φ tm a.tmps) (t : TypeId) (x : Operand) (i : Nat) (call : CallH) :
    Sim P w0 φ (opField t x i env call tm) (do Pure.pure (.value (← Instr.field t (a.eval x) i)) : Sem Next) RNext := by
  unfold opField
  refine Sim.value ?_
  refine sim_fieldOf t i (d := fun fs => match fs[i]? with
      | some f => do part f.type (← asAgg (a.eval x)) f.offset
      | none => stuck "Field: no such field") (fun ti fs f te hti hfs hf hte => ?_) (fun ti hti w fs hfs => ?_)
  · simp only [hf]
    split
    · rename_i cs hv
      have hr := ev_VR ht hv
      generalize a.eval x = u at hr
      cases hr with
      | agg xs ys h => exact Sim.look (x := asAgg _) (fun _ => rfl) (sim_part hE hte h f.offset)
    · exact Sim.fail
  · unfold Instr.field
    rw [Sem.run_bind, (hE.ty _ _ hti).runU, hfs]; rfl

theorem ofNat_bound (i : Nat) (n : Nat) : (0 ≤ (Int.ofNat i) ∧ (Int.ofNat i) < (n : Int)) ↔ i < n := by simp only [Int.ofNat_eq_natCast]; omega

theorem sim_idxAddr (es n : Nat) {i : Value} {b off : Nat} {p : Pl} (hp : φ b = some p) {c : Sem Value}
    (hc : ∀ k j, i = .int k (.ofNat j) → j < n → ∀ w, c.run P w = .ok (.pointer (some ((⟨p.blk, p.base + off, none⟩ : Addr).add (j * es)))) w) :
    Sim P w0 φ (idxAddr es n i ⟨b, off, none⟩) c RVal := by
  unfold idxAddr
  split
  · rename_i k j
    split
    · rename_i hlt
      rw [nblt, decide_eq_true_eq] at hlt
      refine Sim.force (Sim.congr (d := Pure.pure (Value.pointer (some ((⟨p.blk, p.base + off, none⟩ : Addr).add (j * es))))) (fun w => hc _ _ rfl hlt w) ?_)
      rw [at_add p (j * es) p.blk off rfl]
      exact Sim.pure (VR.ptr b (off + j * es) p hp)
    · exact Sim.fail
  · exact Sim.fail

theorem sim_indexAddr (hE : EnvOK P env) (ht : TR φ tm a.tmps) (t : TypeId) (x i : Operand) (call : CallH) :
    Sim P w0 φ (opIndexAddr t x i env call tm) (do Pure.pure (.value (← Instr.indexAt t (a.eval x) (a.eval i))) : Sem Next) RNext := by
  unfold opIndexAddr
  refine Sim.withO fun ti hti => Sim.withO fun u hu => Sim.withO fun v hv => Sim.value ?_
  have hru := ev_VR ht hu
  have hrv := ev_VR ht hv
  have hT := hE.ty _ _ hti
  unfold indexAddrV
  split
  · rename_i n e y hd
    refine Sim.withO fun te hte => ?_
    have hS := (hE.ty _ _ hte).runS
    obtain ⟨b, off, p, rfl, hp, hy⟩ := ptr_spot hru
    refine sim_idxAddr te.size n hp fun k j hj hlt w => ?_
    subst hj
    rw [hrv.int_inv, hy]
    unfold Instr.indexAt
    simp only [asIntOf, Sem.run_bind, Sem.run_pure, Result.andThen_ok, hT.runU, hd, Instr.sureAddr, hS, Sem.run_ite, ofNat_bound, if_pos hlt]
    rfl
  · rename_i e y len cap hd
    refine Sim.withO fun te hte => ?_
    have hS := (hE.ty _ _ hte).runS
    generalize a.eval x = xx at hru
    cases hru with
    | sl b off l c c' p hp h0 h1 h2 =>
      refine sim_idxAddr te.size len hp fun k j hj hlt w => ?_
      subst hj
      rw [hrv.int_inv]
      unfold Instr.indexAt
      simp only [asIntOf, Sem.run_bind, Sem.run_pure, Result.andThen_ok, hT.runU, hd, hS, Sem.run_ite, ofNat_bound, if_pos hlt]
      rfl
    | sle y y' =>
      unfold idxAddr
      split
      · rw [nblt, decide_eq_false (by omega)]; exact Sim.fail
      · exact Sim.fail
  · exact Sim.fail

theorem sim_index (hE : EnvOK P env) (ht : TR φ tm a.tmps) (t : TypeId) (x i : Operand) (call : CallH) :
    Sim P w0 φ (opIndex t x i env call tm) (do Pure.pure (.value (← Instr.index t (a.eval x) (a.eval i))) : Sem Next) RNext := by
  unfold opIndex
  refine Sim.withO fun ti hti => Sim.withO fun u hu => Sim.withO fun v hv => Sim.value ?_
  have hru := ev_VR ht hu
  have hrv := ev_VR ht hv
  have hT := hE.ty _ _ hti
  unfold indexV
  split
  · rename_i n e cs k j hd
    split
    · rename_i hlt
      rw [nblt, decide_eq_true_eq] at hlt
      refine Sim.withO fun te hte => ?_
      have hS := (hE.ty _ _ hte).runS
      rw [hrv.int_inv]
      generalize a.eval x = xx at hru
      cases hru with
      | agg xs ys h =>
        unfold Instr.index
        refine Sim.congr (d := part e ⟨ys⟩ (j * te.size)) (fun w => ?_) (sim_part hE hte h _)
        simp only [asIntOf, Sem.run_bind, Sem.run_pure, Result.andThen_ok, hT.runU, hd, hS, Sem.run_ite, ofNat_bound, if_pos hlt]
        rfl
    · exact Sim.fail
  · rename_i s k j hd
    rw [hrv.int_inv, hru.str_inv]
    split
    · rename_i c hc
      rw [nthL_eq] at hc
      refine Sim.congr (d := Pure.pure (Value.int .u8 (Int.ofNat c.toNat))) (fun w => ?_) (Sim.pure (VR.int _ _))
      have hg : s[j]? = some c := by
        have : s.data[j]? = some c := by simpa using hc
        obtain ⟨h1, h2⟩ := Array.getElem?_eq_some_iff.1 this
        have h3 : j < s.size := h1
        rw [getElem?_pos s j h3]
        exact congrArg some h2
      unfold Instr.index
      have hpos : (0 : Int) ≤ Int.ofNat j := by simp only [Int.ofNat_eq_natCast]; omega
      simp only [asIntOf, Sem.run_bind, Sem.run_pure, Result.andThen_ok, hT.runU, hd, if_pos hpos]
      rw [show (Int.ofNat j).toNat = j from rfl, hg]
      rfl
    · exact Sim.fail
  · exact Sim.fail

theorem sim_extract (ht : TR φ tm a.tmps) (t : Operand) (i : Nat) (call : CallH) :
    Sim P w0 φ (opExtract t i env call tm) (do Pure.pure (.value (← Instr.extract (a.eval t) i)) : Sem Next) RNext := by
  unfold opExtract
  split
  · rename_i vs hv
    refine Sim.value (Sim.ofO fun v hv' => ?_)
    have hr := ev_VR ht hv
    rw [nthL_eq] at hv'
    generalize a.eval t = u at hr
    cases hr with
    | tuple xs ys h =>
      obtain ⟨u, hu, hr⟩ := h.get hv'
      unfold Instr.extract
      have : (⟨ys⟩ : Array Value)[i]? = some u := by simpa using hu
      simp only [this]
      exact Sim.pure hr
  · exact Sim.fail

/-! ### Slices -/

theorem boundV_run {v : Option Value} {u : Option Value} (h : VRO φ v u) {dflt most n : Nat} (hb : boundV v dflt most = some n) :
    (v = none ∧ u = none ∧ n = dflt) ∨ (n ≤ most ∧ ∃ k, v = some (.int k (.ofNat n)) ∧ u = some (.int k (.ofNat n))) := by
  unfold boundV at hb
  split at hb
  · cases u with
    | none => injection hb with hb; exact .inl ⟨rfl, rfl, hb.symm⟩
    | some u => exact h.elim
  · rename_i k m
    cases u with
    | none => exact h.elim
    | some u =>
      have hu : u = .int k (.ofNat m) := VR.int_inv h
      subst hu
      split at hb
      · rename_i hle
        injection hb with hb; subst hb
        rw [nble, decide_eq_true_eq] at hle
        exact .inr ⟨hle, k, rfl, rfl⟩
      · cases hb
  · cases hb

theorem sliceBound_run (k : IntKind) (n most most' : Nat) (code : BoundsCode) (h : n ≤ most) (hm : most ≤ most') (w : World) : (Instr.sliceBound (.int k (.ofNat n)) most' code).run P w = .ok n w := by
  unfold Instr.sliceBound
  have hb : (0 : Int) ≤ Int.ofNat n ∧ Int.ofNat n ≤ (most' : Int) := by simp only [Int.ofNat_eq_natCast]; omega
  simp only [asIntOf, Sem.run_bind, Sem.run_pure, Result.andThen_ok, if_pos hb]
  rfl

/-- The bounds of a slice expression: where the model's capacity is the greater one, only the greatest parts. -/
theorem bounds_run {len cap cap' : Nat} {lo hi mx lo' hi' mx' : Option Value}
    (hl : VRO φ lo lo')
    (hh : VRO φ hi hi')
    (hm : VRO φ mx mx') (isS : Bool)
    {l h m : Nat} (hc : cap ≤ cap') (hlen : len ≤ cap) (hb : bounds len cap lo hi mx = some (l, h, m)) :
    ∃ m', (∀ w, (Instr.sliceBounds isS len cap' lo' hi' mx').run P w = .ok (l, h, m') w) ∧ m ≤ m' ∧ l ≤ h ∧ h ≤ m ∧ m' ≤ cap' ∧ m ≤ cap ∧ (m' = m ∨ (m = cap ∧ m' = cap')) := by
  unfold bounds at hb
  split at hb
  · cases hb
  · rename_i m0 hm0
    split at hb
    · cases hb
    · rename_i hne
      split at hb
      · cases hb
      · rename_i h0 hh0
        split at hb
        · cases hb
        · rename_i l0 hl0
          simp only [Option.some.injEq, Prod.mk.injEq] at hb
          obtain ⟨e1, e2, e3⟩ := hb
          subst e1; subst e2; subst e3
          have bm := boundV_run hm hm0
          have bh := boundV_run hh hh0
          have bl := boundV_run hl hl0
          -- the greatest
          have key : ∃ m', (∀ w, ((match mx' with | some v => Instr.sliceBound v cap' (if isS then .slice3Acap else .slice3Alen) | none => Pure.pure cap' : Sem Nat)).run P w = .ok m' w) ∧ m0 ≤ m' ∧ m' ≤ cap' ∧ m0 ≤ cap ∧ (m' = m0 ∨ (m0 = cap ∧ m' = cap')) := by
            rcases bm with ⟨e1, e2, e3⟩ | ⟨e1, k, e2, e3⟩
            · subst e2; subst e3; exact ⟨cap', fun w => rfl, hc, Nat.le_refl _, Nat.le_refl _, .inr ⟨rfl, rfl⟩⟩
            · subst e3; exact ⟨m0, fun w => sliceBound_run k m0 cap cap' _ e1 hc w, Nat.le_refl _, Nat.le_trans e1 hc, e1, .inl rfl⟩
          obtain ⟨m', k1, k2, k3, k4, k5⟩ := key
          have hhm : h0 ≤ m0 := by
            rcases bh with ⟨e1, e2, e3⟩ | ⟨e1, k, e2, e3⟩
            · rcases bm with ⟨f1, f2, f3⟩ | ⟨f1, k, f2, f3⟩
              · omega
              · exact (hne _ f2 e1).elim
            · exact e1
          have hlh : l0 ≤ h0 := by
            rcases bl with ⟨e1, e2, e3⟩ | ⟨e1, k, e2, e3⟩ <;> omega
          refine ⟨m', fun w => ?_, k2, hlh, hhm, k3, k4, k5⟩
          have sm : ∀ k code w, m0 ≤ cap → (Instr.sliceBound (.int k (.ofNat m0)) cap' code).run P w = .ok m0 w := fun k code w hle => sliceBound_run k m0 cap cap' code hle hc w
          have sh : ∀ k code w most, m0 ≤ most → (Instr.sliceBound (.int k (.ofNat h0)) most code).run P w = .ok h0 w := fun k code w most hle => sliceBound_run k h0 m0 most code hhm hle w
          have sl : ∀ k code w, (Instr.sliceBound (.int k (.ofNat l0)) h0 code).run P w = .ok l0 w := fun k code w => sliceBound_run k l0 h0 h0 code hlh (Nat.le_refl _) w
          rcases bm with ⟨f1, f2, f3⟩ | ⟨f1, km, f2, f3⟩
          · subst f2; subst f3
            have hm' : m' = cap' := by have := k1 w; simp at this; exact this.symm
            subst hm'
            rcases bh with ⟨e1, e2, e3⟩ | ⟨e1, kh, e2, e3⟩
            · subst e2; subst e3
              rcases bl with ⟨g1, g2, g3⟩ | ⟨g1, kl, g2, g3⟩
              · subst g2; subst g3; rfl
              · subst g3
                unfold Instr.sliceBounds
                simp only [Sem.run_bind, Sem.run_pure, Result.andThen_ok, sl]
            · subst e3
              have sh' := fun code => sh kh code w m' k2
              rcases bl with ⟨g1, g2, g3⟩ | ⟨g1, kl, g2, g3⟩
              · subst g2; subst g3
                unfold Instr.sliceBounds
                simp only [Sem.run_bind, Sem.run_pure, Result.andThen_ok, sh']
              · subst g3
                unfold Instr.sliceBounds
                simp only [Sem.run_bind, Sem.run_pure, Result.andThen_ok, sh', sl]
          · subst f3
            have sm' := fun code => sm km code w f1
            have hm' : m' = m0 := by have := k1 w; simp only [sm'] at this; injection this with this _; exact this.symm
            subst hm'
            rcases bh with ⟨e1, e2, e3⟩ | ⟨e1, kh, e2, e3⟩
            · exact (hne _ f2 e1).elim
            · subst e3
              have sh' := fun code => sh kh code w m' k2
              rcases bl with ⟨g1, g2, g3⟩ | ⟨g1, kl, g2, g3⟩
              · subst g2; subst g3
                unfold Instr.sliceBounds
                simp only [Sem.run_bind, Sem.run_pure, Result.andThen_ok, sm', sh']
              · subst g3
                unfold Instr.sliceBounds
                simp only [Sem.run_bind, Sem.run_pure, Result.andThen_ok, sm', sh', sl]

theorem addA_eq (b off : Nat) (n : Nat) : addA ⟨b, off, none⟩ n = ⟨b, off + n, none⟩ := rfl

/-- The value of a slice expression. -/
theorem slice_VR {b off : Nat} {p : Pl} (hp : φ b = some p) (es l h m m' : Nat) (h1 : l ≤ h) (h2 : h ≤ m) (h3 : m ≤ m') (hes : m' = m ∨ (p.tight = false ∧ p.es = es ∧ off + m' * es ≤ p.ext)) :
    VR φ (.slice (some (addA ⟨b, off, none⟩ (Nat.mul l es))) (Nat.sub h l) (Nat.sub m l))
      (.slice (some (if m' = l then (⟨p.blk, p.base + off, none⟩ : Addr) else (⟨p.blk, p.base + off, none⟩ : Addr).add (l * es))) (h - l) (m' - l)) := by
  show VR φ (.slice (some ⟨b, off + l * es, none⟩) (h - l) (m - l)) _
  by_cases hml : m' = l
  · rw [if_pos hml]
    have e1 : h - l = 0 := by omega
    have e2 : m' - l = 0 := by omega
    have e3 : m - l = 0 := by omega
    rw [e1, e2, e3]
    exact .sle _ _
  · rw [if_neg hml, at_add p (l * es) p.blk off rfl]
    refine .sl b (off + l * es) (h - l) (m - l) (m' - l) p hp (by omega) (by omega) ?_
    rcases hes with he | ⟨he1, he2, he3⟩
    · exact .inl (by rw [he])
    · refine .inr ⟨he1, ?_⟩
      rw [he2, Nat.add_assoc, ← Nat.add_mul, show l + (m' - l) = m' from by omega]
      exact he3

theorem sim_slice (hE : EnvOK P env) (ht : TR φ tm a.tmps) (t : TypeId) (x : Operand) (lo hi mx : Option Operand) (call : CallH) :
    Sim P w0 φ (opSlice t x lo hi mx env call tm) (do Pure.pure (.value (← Instr.sliceAt t (a.eval x) (lo.map a.eval) (hi.map a.eval) (mx.map a.eval))) : Sem Next) RNext := by
  unfold opSlice
  refine Sim.withO fun ti hti => Sim.withO fun u hu => Sim.withO fun lo' hlo => Sim.withO fun hi' hhi => Sim.withO fun mx' hmx => Sim.value ?_
  have hru := ev_VR ht hu
  have hrl := evO_VR ht hlo
  have hrh := evO_VR ht hhi
  have hrm := evO_VR ht hmx
  have hT := hE.ty _ _ hti
  unfold sliceV
  split
  · rename_i n e y hd
    refine Sim.withO fun te hte => ?_
    have hS := (hE.ty _ _ hte).runS
    obtain ⟨b, off, p, rfl, hp, hy⟩ := ptr_spot hru
    unfold sliceRes
    split
    · exact Sim.fail
    · rename_i l h m hb
      obtain ⟨m', k1, k2, k3, k4, k5, k6, k7⟩ := bounds_run (P := P) hrl hrh hrm false (Nat.le_refl _) (Nat.le_refl _) hb
      have hmm : m' = m := by rcases k7 with h | ⟨h1, h2⟩ <;> omega
      subst hmm
      refine Sim.force (Sim.force (Sim.force ?_))
      rw [hy]
      unfold Instr.sliceAt
      refine Sim.congr (d := Pure.pure (Value.slice (some (if m' = l then (⟨p.blk, p.base + off, none⟩ : Addr) else (⟨p.blk, p.base + off, none⟩ : Addr).add (l * te.size))) (h - l) (m' - l))) (fun w => ?_)
        (Sim.pure (slice_VR hp te.size l h m' m' k3 k4 (Nat.le_refl _) (.inl rfl)))
      simp only [Sem.run_bind, hT.runU, hd, Result.andThen_ok, Instr.sureAddr, Sem.run_pure, k1, hS]
  · rename_i e y len cap hd
    refine Sim.withO fun te hte => ?_
    have hS := (hE.ty _ _ hte).runS
    refine Sim.getObj fun o s w v s' hg hk r f => ?_
    unfold sliceS at hk
    split at hk
    · rename_i sz es' tight ro cs
      have hk' : sliceRes te.size y (bounds len cap lo' hi' mx') s = some (v, s') ∧ (tight = true ∨ te.size = es') := by
        cases tight with
        | true => exact ⟨hk, .inl rfl⟩
        | false =>
          cases he : Nat.beq te.size es' with
          | true =>
            rw [he] at hk
            rw [T.nbeq, decide_eq_true_eq] at he
            exact ⟨hk, .inr he⟩
          | false => rw [he] at hk; cases hk
      clear hk
      obtain ⟨hk, hes⟩ := hk'
      unfold sliceRes at hk
      cases hb : bounds len cap lo' hi' mx' with
      | none => rw [hb] at hk; cases hk
      | some lhm =>
        obtain ⟨l, h, m⟩ := lhm
        rw [hb] at hk
        simp only [force_eq] at hk
        injection hk with hk; injection hk with e1 e2; subst e1; subst e2
        generalize a.eval x = xx at hru
        cases hru with
        | sl b off _ _ c' p hp h0 h1 h2 =>
          obtain ⟨q, hq, hl⟩ := r.live _ _ _ _ _ _ hg
          have hq' : φ b = some q := hq
          rw [hp] at hq'; injection hq' with hq'; subst hq'
          obtain ⟨m', k1, k2, k3, k4, k5, k6, k7⟩ := bounds_run (P := P) hrl hrh hrm true h1 h0 hb
          refine ⟨Value.slice (some (if m' = l then (⟨p.blk, p.base + off, none⟩ : Addr) else (⟨p.blk, p.base + off, none⟩ : Addr).add (l * te.size))) (h - l) (m' - l), w, φ, ?_, Le.refl _, Gr.refl _ _ _, r, ?_⟩
          · unfold Instr.sliceAt Instr.slice
            simp only [Sem.run_bind, hT.runU, hd, Result.andThen_ok, Sem.run_pure, k1, hS]
            split <;> rfl
          · refine slice_VR hp te.size l h m m' k3 k4 k2 ?_
            rcases h2 with h2 | ⟨h2, h2'⟩
            · subst h2; exact .inl (by rcases k7 with h | ⟨h, h'⟩ <;> omega)
            · rcases k7 with h | ⟨h, h'⟩
              · exact .inl h
              · have hti : tight = false := by rw [← hl.htight]; exact h2
                have : te.size = es' := by rcases hes with h | h; rw [hti] at h; cases h; exact h
                refine .inr ⟨h2, by rw [hl.hes, this], ?_⟩
                rw [h', this, ← hl.hes]; exact h2'
        | sle y' y'' =>
          obtain ⟨m', k1, k2, k3, k4, k5, k6, k7⟩ := bounds_run (P := P) hrl hrh hrm true (Nat.le_refl 0) (Nat.le_refl 0) hb
          have em : m' = 0 := by omega
          have el : l = 0 := by omega
          have eh : h = 0 := by omega
          have em0 : m = 0 := by omega
          subst em; subst el; subst eh; subst em0
          refine ⟨Value.slice (some y'') 0 0, w, φ, ?_, Le.refl _, Gr.refl _ _ _, r, .sle _ _⟩
          unfold Instr.sliceAt Instr.slice
          simp only [Sem.run_bind, hT.runU, hd, Result.andThen_ok, Sem.run_pure, k1, hS]
          rfl
    · cases hk
  · rename_i e len cap hd
    refine Sim.withO fun te hte => ?_
    have hS := (hE.ty _ _ hte).runS
    generalize a.eval x = xx at hru
    cases hru with
    | nils _ _ hlc =>
      unfold sliceNil
      split
      · exact Sim.fail
      · rename_i l h m hb
        obtain ⟨m', k1, k2, k3, k4, k5, k6, k7⟩ := bounds_run (P := P) hrl hrh hrm true (Nat.le_refl _) hlc hb
        have hmm : m' = m := by rcases k7 with h | ⟨h1, h2⟩ <;> omega
        subst hmm
        refine Sim.force (Sim.force ?_)
        unfold Instr.sliceAt Instr.slice
        refine Sim.congr (d := Pure.pure (Value.slice none (h - l) (m' - l))) (fun w => ?_) (Sim.pure (.nils _ _ (by show h - l ≤ m' - l; omega)))
        simp only [Sem.run_bind, hT.runU, hd, Result.andThen_ok, Sem.run_pure, k1, hS]
        split <;> rfl
  · exact Sim.fail

end
end Go.Ax
