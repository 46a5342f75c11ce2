/- The abstract executor: its operations stand for the model's: composites, new slices, conversions.
Conditions: none. -/
import Derived.Test.YtjlhclmgjdabfaaGreatAxS3
namespace Go.Ax
set_option linter.unusedVariables false
set_option linter.unusedSimpArgs false
set_option linter.unusedSectionVars false
open Go.RowKit (Below)

section
variable {P : Program} {w0 : Base} {φ : Map} {tm : T Value} {a : Act} {env : Env}

/-- A trie reads as an array. -/
structure CR (φ : Map) (n : Nat) (t : T Value) (arr : Array Value) : Prop where
  size : arr.size = n
  val : ∀ i, i < n → ∃ v u, t.get i = some v ∧ arr[i]? = some u ∧ VR φ v u

theorem CR.of_list {l : List Value} {us : List Value} (h : VRs φ l us) : CR φ l.length (T.ofList l) ⟨us⟩ := by
  refine ⟨by simp [h.length], fun i hi => ?_⟩
  obtain ⟨u, hu, hr⟩ := h.get (List.getElem?_eq_getElem hi)
  exact ⟨l[i], u, by rw [T.get_ofList, List.getElem?_eq_getElem hi], by simpa using hu, hr⟩

theorem foldl_set_size (l : List Value) : ∀ (k off : Nat) (arr : Array Value), ((l.zipIdx k).foldl (fun cs (x : Value × Nat) => cs.setIfInBounds (off + x.2) x.1) arr).size = arr.size := by
  induction l with
  | nil => intro k off arr; rfl
  | cons v l ih => intro k off arr; rw [List.zipIdx_cons, List.foldl_cons, ih]; simp

theorem foldl_set_get (l : List Value) : ∀ (k off : Nat) (arr : Array Value) (i : Nat), i < arr.size →
    ((l.zipIdx k).foldl (fun cs (x : Value × Nat) => cs.setIfInBounds (off + x.2) x.1) arr)[i]? = if off + k ≤ i ∧ i < off + k + l.length then l[i - (off + k)]? else arr[i]? := by
  induction l with
  | nil => intro k off arr i _; rw [if_neg (by simp only [List.length_nil]; omega)]; rfl
  | cons v l ih =>
    intro k off arr i hi
    rw [List.zipIdx_cons, List.foldl_cons, ih _ _ _ _ (by simpa using hi)]
    simp only [List.length_cons]
    by_cases h1 : off + (k + 1) ≤ i ∧ i < off + (k + 1) + l.length
    · rw [if_pos h1, if_pos (by omega)]
      rw [show i - (off + k) = (i - (off + (k + 1))) + 1 from by omega, List.getElem?_cons_succ]
    · rw [if_neg h1]
      by_cases h2 : i = off + k
      · subst h2
        rw [if_pos (by omega), Nat.sub_self, List.getElem?_cons_zero, Array.getElem?_setIfInBounds_self_of_lt hi]
      · rw [if_neg (by omega), Array.getElem?_setIfInBounds_ne (by omega)]

theorem fill_sim {place place' : Nat → Option (Nat × Nat)} (hpl : ∀ i q, place i = some q → place' i = some q) {n : Nat} :
    ∀ {ps : List (Nat × Value)} {ps' : List (Nat × Value)}, List.length ps = List.length ps' → (∀ (k : Nat) i v i' v', ps[k]? = some (i, v) → ps'[k]? = some (i', v') → i' = i ∧ VR φ v v') →
      ∀ {t t' : T Value} {arr : Array Value}, CR φ n t arr → fillL place n ps t = some t' → ∃ arr', Instr.fill place' arr ps' = some arr' ∧ CR φ n t' arr'
  | [], ps', hlen, _, t, t', arr, hc, hf => by
    cases ps' with
    | nil => have : some t = some t' := hf
             injection this with this; subst this
             exact ⟨arr, rfl, hc⟩
    | cons => simp at hlen
  | (i, v) :: ps, ps', hlen, hps, t, t', arr, hc, hf => by
    cases ps' with
    | nil => simp at hlen
    | cons x ps' =>
      obtain ⟨i', v'⟩ := x
      obtain ⟨e1, hv⟩ := hps 0 i v i' v' (by simp) (by simp)
      subst e1
      unfold fillL at hf
      cases hp : place i' with
      | none => rw [hp] at hf; cases hf
      | some q =>
        obtain ⟨off, size⟩ := q
        rw [hp] at hf
        simp only [lenL_eq, T.nbeq, nble] at hf
        have hcl := hv.cells
        have hl2 := hcl.length
        by_cases hsz : (cellsOf v).length = size
        · rw [decide_eq_true hsz] at hf
          by_cases hle : Nat.add off size ≤ n
          · rw [decide_eq_true hle] at hf
            have hle' : off + size ≤ n := hle
            have hvs : v'.cells.size = size := by rw [← hsz, hl2]; rfl
            unfold Instr.fill
            simp only [hpl _ _ hp]
            rw [if_neg (by simp only [hvs, hc.size]; simp; omega)]
            have hcr : CR φ n (T.write (cellsOf v) t off) (v'.cells.zipIdx.foldl (fun cs x => cs.setIfInBounds (off + x.2) x.1) arr) := by
              rw [← Array.foldl_toList, Array.toList_zipIdx]
              refine ⟨by rw [foldl_set_size, hc.size], fun k hk => ?_⟩
              rw [foldl_set_get _ _ _ _ _ (by rw [hc.size]; exact hk), T.get_write, Nat.add_zero]
              by_cases hin : off ≤ k ∧ k < off + (cellsOf v).length
              · rw [if_pos hin, if_pos (by rw [← hl2]; exact hin)]
                have hx : (cellsOf v)[k - off]? = some (cellsOf v)[k - off] := List.getElem?_eq_getElem (by omega)
                obtain ⟨u, hu, hr⟩ := hcl.get hx
                exact ⟨_, u, hx, hu, hr⟩
              · rw [if_neg hin, if_neg (by rw [← hl2]; exact hin)]
                exact hc.val k hk
            exact fill_sim hpl (by simpa using hlen) (fun k i v i' v' h1 h2 => hps (k + 1) i v i' v' (by simpa using h1) (by simpa using h2)) hcr hf
          · rw [decide_eq_false hle] at hf; cases hf
        · rw [decide_eq_false hsz] at hf; cases hf

theorem evPs_VR (ht : TR φ tm a.tmps) : ∀ {l : List (Nat × Operand)} {vs : List (Nat × Value)}, evPs l tm = some vs →
    vs.length = (l.map fun x => (x.1, a.eval x.2)).length ∧ ∀ (k : Nat) i v i' v', vs[k]? = some (i, v) → (l.map fun x => (x.1, a.eval x.2))[k]? = some (i', v') → i' = i ∧ VR φ v v'
  | [], vs, h => by
    have : some [] = some vs := h
    injection this with this; subst this
    exact ⟨rfl, fun k i v i' v' h1 => by simp at h1⟩
  | (i, x) :: l, vs, h => by
    unfold evPs at h
    cases hx : ev x tm with
    | none => rw [hx] at h; cases h
    | some v =>
      rw [hx] at h
      cases hl : evPs l tm with
      | none => rw [hl] at h; cases h
      | some vs' =>
        rw [hl] at h
        injection h with h; subst h
        obtain ⟨h1, h2⟩ := evPs_VR ht hl
        refine ⟨by simp [h1], fun k i1 v1 i2 v2 e1 e2 => ?_⟩
        cases k with
        | zero => simp at e1 e2; obtain ⟨rfl, rfl⟩ := e1; obtain ⟨rfl, rfl⟩ := e2; exact ⟨rfl, ev_VR ht hx⟩
        | succ k => exact h2 k _ _ _ _ (by simpa using e1) (by simpa using e2)

theorem parts_map (parts : Array (Nat × Operand)) : (parts.map fun (i, x) => (i, a.eval x)).toList = parts.toList.map fun x => (x.1, a.eval x.2) := by
  rw [Array.toList_map]

theorem agg_of_CR {n : Nat} {t : T Value} {arr : Array Value} (h : CR φ n t arr) {l : List Value} (hl : t.read n 0 = some l) : VR φ (.agg ⟨l⟩) (.agg arr) := by
  obtain ⟨h1, h2⟩ := T.read_some _ _ _ _ hl
  obtain ⟨us⟩ := arr
  have hsz : us.length = n := h.size
  refine .agg l us (VRs.of_get (by omega) fun i v u hv hu => ?_)
  have hi : i < n := by rw [← h1]; exact (List.getElem?_eq_some_iff.1 hv).1
  obtain ⟨v', u', e1, e2, hr⟩ := h.val i hi
  have := h2 i hi
  rw [Nat.zero_add, e1, hv] at this
  injection this with this; subst this
  have e2' : us[i]? = some u' := by simpa using e2
  rw [hu] at e2'; injection e2' with e2'; subst e2'; exact hr

theorem mapM_sizes (hE : EnvOK P env) (fs : List Field) (w : World) (hf : ∀ f ∈ fs, ∃ te, env.ty.get f.type = some te) :
    ((fs.mapM fun f => do Pure.pure (f.offset, ← sizeOf f.type) : Sem (List (Nat × Nat)))).run P w = .ok (fs.map fun f => (f.offset, match env.ty.get f.type with | some te => te.size | none => 0)) w := by
  induction fs with
  | nil => rfl
  | cons f fs ih =>
    obtain ⟨te, hte⟩ := hf f (by simp)
    rw [List.mapM_cons, Sem.run_bind]
    simp only [Sem.run_bind, (hE.ty _ _ hte).runS, Result.andThen_ok, Sem.run_pure, ih (fun g hg => hf g (by simp [hg]))]
    simp [hte]

theorem fieldsIn_spec {fs : List Field} (h : fieldsIn env fs = true) : ∀ f ∈ fs, ∃ te, env.ty.get f.type = some te := by
  induction fs with
  | nil => intro f hf; simp at hf
  | cons g fs ih =>
    intro f hf
    unfold fieldsIn at h
    cases hg : env.ty.get g.type with
    | none => rw [hg] at h; cases h
    | some te =>
      rw [hg] at h
      rcases List.mem_cons.1 hf with e | e
      · subst e; exact ⟨te, hg⟩
      · exact ih h f e

theorem sim_aggOf {n : Nat} {o : Option (T Value)} {c : Sem Value} (h : ∀ t l, o = some t → t.read n 0 = some l → ∃ arr, CR φ n t arr ∧ ∀ w, c.run P w = .ok (.agg arr) w) :
    Sim P w0 φ (aggOf n o) c RVal := by
  unfold aggOf
  split
  · exact Sim.fail
  · rename_i t
    split
    · exact Sim.fail
    · rename_i l hl
      obtain ⟨arr, h1, h2⟩ := h t l rfl hl
      exact Sim.congr (d := Pure.pure (Value.agg arr)) h2 (Sim.pure (agg_of_CR h1 hl))

theorem zero_CR {t : TypeId} {ti : TI} (hT : TyOK P t ti) {z : Value} (hz : z.cells.toList = ti.zero) : CR φ ti.size (T.ofList ti.zero) z.cells := by
  have h := CR.of_list (φ := φ) (hT.zVR (φ := φ))
  rw [hT.zsize] at h
  have : z.cells = ⟨ti.zero⟩ := by rw [← hz]
  rw [this]; exact h

theorem sim_build (hE : EnvOK P env) (ht : TR φ tm a.tmps) (t : TypeId) (parts : Array (Nat × Operand)) (call : CallH) :
    Sim P w0 φ (opBuild t parts env call tm) (do Pure.pure (.value (← Instr.build t (parts.map fun (i, x) => (i, a.eval x)))) : Sem Next) RNext := by
  unfold opBuild
  refine Sim.withO fun ti hti => Sim.withO fun ps hps => Sim.value ?_
  have hT := hE.ty _ _ hti
  obtain ⟨p1, p2⟩ := evPs_VR ht hps
  obtain ⟨z, hz, hz1, _⟩ := hT.runZ
  have hpm := parts_map (a := a) parts
  unfold Instr.build
  refine Sim.look hz ?_
  refine Sim.look hT.runU ?_
  unfold buildK
  split
  · rename_i fs hd
    rw [hd]
    simp only
    split
    · rename_i hfi
      have hin := fieldsIn_spec hfi
      refine sim_aggOf fun t' l ho hl => ?_
      obtain ⟨arr, h1, h2⟩ := fill_sim (place := fieldPl env fs.toList) (place' := fun i => (fs.map fun f => (f.offset, match env.ty.get f.type with | some te => te.size | none => 0))[i]?)
        (fun i q hq => by
          unfold fieldPl at hq
          rw [nthL_eq] at hq
          cases hf : fs.toList[i]? with
          | none => rw [hf] at hq; cases hq
          | some f =>
            rw [hf] at hq
            simp only at hq
            cases hte : env.ty.get f.type with
            | none => rw [hte] at hq; cases hq
            | some te =>
              rw [hte] at hq; simp only [Option.some.injEq] at hq
              have hf' : fs[i]? = some f := by simpa using hf
              simp [hf', hte, hq])
        p1 p2 (zero_CR hT hz1) ho
      refine ⟨arr, h2, fun w => ?_⟩
      have hm : (fs.mapM fun f => do Pure.pure (f.offset, ← sizeOf f.type) : Sem (Array (Nat × Nat))).run P w = .ok (fs.map fun f => (f.offset, match env.ty.get f.type with | some te => te.size | none => 0)) w := by
        rw [Array.mapM_eq_mapM_toList, Sem.run_map, mapM_sizes hE _ _ hin]
        simp only [Result.andThen_ok]
        congr 1
        apply Array.ext'; simp
      rw [Sem.run_bind, hm, Result.andThen_ok]
      rw [hpm, h1]
      rfl
    · exact Sim.fail
  · rename_i n e hd
    rw [hd]
    refine Sim.withO fun te hte => ?_
    have hS := (hE.ty _ _ hte).runS
    refine Sim.look hS ?_
    refine sim_aggOf fun t' l ho hl => ?_
    obtain ⟨arr, h1, h2⟩ := fill_sim (place := elemPl te.size) (place' := fun i => some (i * te.size, te.size)) (fun i q hq => hq) p1 p2 (zero_CR hT hz1) ho
    refine ⟨arr, h2, fun w => ?_⟩
    rw [hpm, h1]
    rfl
  · exact Sim.fail

theorem repL_length {α : Type} (l : List α) (n : Nat) : (repL l n).length = n * l.length := by
  induction n with
  | zero => rw [repL_zero]; simp
  | succ n ih => rw [repL_succ, List.length_append, ih, Nat.succ_mul, Nat.add_comm]

theorem repL_get {α : Type} (l : List α) : ∀ (n i : Nat), i < n * l.length → (repL l n)[i]? = l[i % l.length]?
  | 0, i, h => by simp at h
  | n + 1, i, h => by
    rw [repL_succ]
    by_cases hi : i < l.length
    · rw [List.getElem?_append_left hi, Nat.mod_eq_of_lt hi]
    · rw [List.getElem?_append_right (by omega), repL_get l n _ (by rw [Nat.succ_mul] at h; omega)]
      congr 1
      rw [Nat.mod_eq_sub_mod (by omega : i ≥ l.length)]

/-- The cells of n zero elements, as the model writes them. -/
theorem zeros_eq (z : List Value) (n m : Nat) (h : m = n * z.length) : (Array.range m).map (fun i => (⟨z⟩ : Array Value)[i % (⟨z⟩ : Array Value).size]!) = ⟨repL z n⟩ := by
  apply Array.ext'
  apply List.ext_getElem?
  intro i
  simp only [Array.toList_map, Array.toList_range, List.getElem?_map]
  by_cases hi : i < m
  · have h2 : i < n * z.length := by omega
    have hz : 0 < z.length := by
      rcases Nat.eq_zero_or_pos z.length with e | e
      · rw [e] at h2; simp at h2
      · exact e
    rw [repL_get z n i h2, List.getElem?_range hi]
    have hlt := Nat.mod_lt i hz
    simp [hlt]
  · rw [List.getElem?_eq_none (l := repL z n) (by rw [repL_length]; omega), List.getElem?_eq_none (l := List.range m) (by simpa using hi)]; rfl

theorem zero_cells {e : TypeId} {te : TI} (hTe : TyOK P e te) {z : Value} (hz1 : z.cells.toList = te.zero) (len : Nat) (zs : Array Value) (hzs : zs = if len * te.size = 0 then #[] else z.cells) :
    (Array.range (len * te.size)).map (fun i => zs[i % zs.size]!) = ⟨repL te.zero len⟩ := by
  by_cases h0 : len * te.size = 0
  · have : repL te.zero len = [] := List.eq_nil_of_length_eq_zero (by rw [repL_length, hTe.zsize]; exact h0)
    rw [this, h0]; simp
  · rw [if_neg h0] at hzs
    have hzc : z.cells = ⟨te.zero⟩ := by rw [← hz1]
    rw [hzs, hzc]
    exact zeros_eq te.zero len (len * te.size) (by rw [hTe.zsize])

theorem sim_buildSlice (hE : EnvOK P env) (ht : TR φ tm a.tmps) (t : TypeId) (len : Nat) (parts : Array (Nat × Operand)) (call : CallH) :
    Sim P w0 φ (opBuildSlice t len parts env call tm) (do Pure.pure (.value (← Instr.buildSlice t len (parts.map fun (i, x) => (i, a.eval x)))) : Sem Next) RNext := by
  unfold opBuildSlice
  refine Sim.withO fun ti hti => ?_
  have hT := hE.ty _ _ hti
  split
  · rename_i e hd
    refine Sim.withO fun te hte => Sim.withO fun ps hps => Sim.value ?_
    have hTe := hE.ty _ _ hte
    obtain ⟨p1, p2⟩ := evPs_VR ht hps
    obtain ⟨z, hz, hz1, _⟩ := hTe.runZ
    have hpm := parts_map (a := a) parts
    unfold Instr.buildSlice
    refine Sim.look hT.runU ?_
    rw [hd]
    simp only
    refine Sim.look hTe.runS ?_
    split
    · rename_i hle
      rw [nble, decide_eq_true_eq] at hle
      have hle' : len * te.size ≤ 10000 := hle
      rw [if_neg (by omega)]
      -- the zero cells
      have hcells : ∀ zs : Array Value, (zs = if len * te.size = 0 then #[] else z.cells) → (Array.range (len * te.size)).map (fun i => zs[i % zs.size]!) = ⟨repL te.zero len⟩ := by
        intro zs hzs
        by_cases h0 : len * te.size = 0
        · have : repL te.zero len = [] := List.eq_nil_of_length_eq_zero (by rw [repL_length, hTe.zsize]; exact h0)
          rw [this, h0]; simp
        · rw [if_neg h0] at hzs
          have hzc : z.cells = ⟨te.zero⟩ := by rw [← hz1]
          rw [hzs, hzc]
          exact zeros_eq te.zero len (len * te.size) (by rw [hTe.zsize])
      refine Sim.congr (d := match Instr.fill (fun i => some (i * te.size, te.size)) ⟨repL te.zero len⟩ (parts.toList.map fun x => (x.1, a.eval x.2)) with
        | some cells => do Pure.pure (Value.slice (some (← newRow e cells)) len len)
        | none => stuck "buildSlice: a part of the wrong size") (fun w => ?_) ?_
      · rw [← hpm]
        by_cases h0 : len * te.size = 0
        · rw [if_pos h0, Sem.run_bind, Sem.run_pure, Result.andThen_ok, hcells #[] (by rw [if_pos h0])]
          cases Instr.fill (fun i => some (i * te.size, te.size)) ⟨repL te.zero len⟩ (parts.map fun x => (x.1, a.eval x.2)).toList <;> rfl
        · rw [if_neg h0, Sem.run_bind, hz, Result.andThen_ok, Sem.run_bind, Sem.run_pure, Result.andThen_ok, hcells z.cells (by rw [if_neg h0])]
          cases Instr.fill (fun i => some (i * te.size, te.size)) ⟨repL te.zero len⟩ (parts.map fun x => (x.1, a.eval x.2)).toList <;> rfl
      unfold sliceOfCells
      split
      · exact Sim.fail
      · rename_i t' ho
        have hcr : CR φ (len * te.size) (T.ofList (repL te.zero len)) ⟨repL te.zero len⟩ := by
          have hzr : VRs φ (repL te.zero len) (repL te.zero len) := by
            have : ∀ n, VRs φ (repL te.zero n) (repL te.zero n) := by
              intro n; induction n with
              | zero => exact .nil
              | succ n ih => rw [repL_succ]; exact hTe.zVR.append ih
            exact this len
          have := CR.of_list hzr
          rwa [repL_length, hTe.zsize] at this
        obtain ⟨arr, h1, h2⟩ := fill_sim (place := elemPl te.size) (place' := fun i => some (i * te.size, te.size)) (fun i q hq => hq) p1 p2 hcr ho
        rw [h1]
        simp only
        -- the new block
        refine Sim.bind (good_newObj _) (fun _ => good_pure _) (R := fun ψ b x => ψ b = some ⟨x.block, 0, len * te.size, te.size, true⟩ ∧ x.off = 0 ∧ x.spot = none) ?_ fun ψ b x _ hx => Sim.pure ?_
        · intro s w v s' hm r f
          rw [newObj_eq] at hm
          injection hm with hm; injection hm with e1 e2; subst e1; subst e2
          have hc : φ s.c = none := f _ (Nat.le_refl _) (Nat.lt_succ_self _)
          -- what the trie holds as a list
          have hlist : ∃ l, l.length = len * te.size ∧ VRs φ l arr.toList ∧ ∀ i, i < l.length → t'.get i = l[i]? := by
            refine ⟨(List.range (len * te.size)).map fun i => (t'.get i).getD undef, by simp, VRs.of_get (by simp [h2.size]) fun i v u hv hu => ?_, fun i hi => ?_⟩
            · have hi : i < len * te.size := by have := (List.getElem?_eq_some_iff.1 hv).1; simpa using this
              obtain ⟨v', u', e1, e2, hr⟩ := h2.val i hi
              simp only [List.getElem?_map, List.getElem?_range hi, Option.map_some, Option.some.injEq] at hv
              rw [e1] at hv; simp only [Option.getD_some] at hv; subst hv
              have e2' : arr.toList[i]? = some u' := by simpa using e2
              rw [hu] at e2'; injection e2' with e2'; subst e2'; exact hr
            · have hi' : i < len * te.size := by simpa using hi
              obtain ⟨v', u', e1, _, _⟩ := h2.val i hi'
              rw [List.getElem?_map, List.getElem?_range hi', e1, Option.map_some, e1]; rfl
          obtain ⟨l, l1, l2, l3⟩ := hlist
          have key := r.new hc te.size true l arr.toList [] e l2 t' l3
          have earr : (⟨arr.toList ++ []⟩ : Array Value) = arr := by apply Array.ext'; simp
          rw [earr] at key
          have esz : (arr.toList ++ []).length = len * te.size := by simpa using h2.size
          rw [esz, l1] at key
          exact ⟨⟨w.heap.size, 0, none⟩, w.alloc (.cells arr e), _, rfl, put_le _ hc, put_gr _ _ _, key, put_self _ _ _, rfl, rfl⟩
        · obtain ⟨h1, h2, h3⟩ := hx
          obtain ⟨xb, xo, xs⟩ := x
          simp only at h2 h3; subst h2; subst h3
          exact .sl b 0 len len len _ h1 (Nat.le_refl _) (Nat.le_refl _) (.inl rfl)
    · exact Sim.fail
  · exact Sim.fail

theorem sl_VR {ψ : Map} {b : Nat} {x : Addr} {base ext es : Nat} {tight : Bool} (h1 : ψ b = some ⟨x.block, base, ext, es, tight⟩) (h2 : x.off = base) (h3 : x.spot = none) (l c c' : Nat) (hl : l ≤ c) (hc : c ≤ c')
    (hx : c' = c ∨ (tight = false ∧ c' * es ≤ ext)) : VR ψ (.slice (some ⟨b, 0, none⟩) l c) (.slice (some x) l c') := by
  obtain ⟨xb, xo, xs⟩ := x
  simp only at h2 h3; subst h2; subst h3
  exact .sl b 0 l c c' _ h1 hl hc (hx.imp id fun ⟨a, b⟩ => ⟨a, by simpa using b⟩)

theorem sim_makeSlice (hE : EnvOK P env) (ht : TR φ tm a.tmps) (t : TypeId) (l c : Operand) (call : CallH) :
    Sim P w0 φ (opMake t l c env call tm) (do Pure.pure (.value (← Instr.makeSlice t (a.eval l) (a.eval c))) : Sem Next) RNext := by
  unfold opMake
  refine Sim.withO fun ti hti => ?_
  have hT := hE.ty _ _ hti
  split
  · rename_i e hd
    refine Sim.withO fun te hte => Sim.withO fun lv hlv => Sim.withO fun cv hcv => Sim.value ?_
    have hTe := hE.ty _ _ hte
    have hrl := ev_VR ht hlv
    have hrc := ev_VR ht hcv
    obtain ⟨z, hz, hz1, _⟩ := hTe.runZ
    obtain ⟨i, hi, hi1, hi2⟩ := hTe.runI
    unfold makeK
    split
    · rename_i k l k' c
      rw [hrl.int_inv, hrc.int_inv]
      split
      · rename_i hle
        rw [nble, decide_eq_true_eq] at hle
        split
        · rename_i hby
          rw [nble, decide_eq_true_eq] at hby
          have hby' : c * (te.bytes + 1) ≤ 1000000 := hby
          have hc1 : c ≤ 1000000 := Nat.le_trans (Nat.le_mul_of_pos_right c (Nat.succ_pos _)) hby'
          have hc2 : c * te.bytes ≤ 1000000 := Nat.le_trans (Nat.mul_le_mul_left c (Nat.le_succ _)) hby'
          have wl : IntKind.i64.wrap (Int.ofNat l) = (l : Int) := by
            rw [wrap_s _ rfl, show IntKind.bits .i64 = 64 from rfl, show (64 - 1 : Nat) = 63 from rfl, show (2 : Int) ^ 64 = 18446744073709551616 from rfl, show (2 : Int) ^ 63 = 9223372036854775808 from rfl]
            simp only [Int.ofNat_eq_natCast]
            rw [if_neg (by omega)]; omega
          have wc : IntKind.i64.wrap (Int.ofNat c) = (c : Int) := by
            rw [wrap_s _ rfl, show IntKind.bits .i64 = 64 from rfl, show (64 - 1 : Nat) = 63 from rfl, show (2 : Int) ^ 64 = 18446744073709551616 from rfl, show (2 : Int) ^ 63 = 9223372036854775808 from rfl]
            simp only [Int.ofNat_eq_natCast]
            rw [if_neg (by omega)]; omega
          refine Sim.force (Sim.force ?_)
          refine Sim.congr (d := do Pure.pure (Value.slice (some (← newRow e ⟨repL te.zero c ++ []⟩)) l c)) (fun w => ?_) ?_
          · unfold Instr.makeSlice
            rw [Sem.run_bind, hT.runU, hd, Result.andThen_ok]
            simp only [asInt, asIntOf, Sem.run_bind, Sem.run_pure, Result.andThen_ok, hi, wl, wc]
            have hby2 : ((te.bytes : Int) * (c : Int)) ≤ 1000000 := by
              have : ((te.bytes * c : Nat) : Int) ≤ 1000000 := by rw [Nat.mul_comm]; omega
              rwa [Int.natCast_mul] at this
            have hcond : (decide ((c : Int) < 0) || decide ((i.bytes : Int) * (c : Int) > 2 ^ 48) || decide ((l : Int) < 0) || decide ((l : Int) > (c : Int))) = false := by
              rw [hi2]
              have h48 : (2 : Int) ^ 48 = 281474976710656 := rfl
              simp only [Bool.or_eq_false_iff, decide_eq_false_iff_not, h48]
              omega
            rw [if_neg (by rw [hcond]; simp)]
            have hroom : (askRoom ((c : Int).toNat * i.bytes)).run P w = .ok () w := by
              unfold askRoom
              rw [if_neg (by rw [hi2, Int.toNat_natCast]; unfold roomBytes; omega)]; rfl
            rw [Sem.run_bind, hroom, Result.andThen_ok, Sem.run_bind, hTe.runS, Result.andThen_ok]
            simp only [Int.toNat_natCast, List.append_nil]
            by_cases h0 : c * te.size = 0
            · rw [if_pos h0, Sem.run_bind, Sem.run_pure, Result.andThen_ok, zero_cells hTe hz1 c #[] (by rw [if_pos h0]), Sem.run_bind]; rfl
            · rw [if_neg h0, Sem.run_bind, hz, Result.andThen_ok, Sem.run_bind, Sem.run_pure, Result.andThen_ok, zero_cells hTe hz1 c z.cells (by rw [if_neg h0]), Sem.run_bind]; rfl
          · refine Sim.bind (good_newCells _ _ _ _) (fun _ => good_pure _) (sim_newCells (l := repL te.zero c) (us := repL te.zero c) (ext := []) te.size true (Nat.mul c te.size) (by rw [repL_length, hTe.zsize]; rfl) e ?_) fun ψ b x _ hx => Sim.pure ?_
            · have : ∀ n, VRs φ (repL te.zero n) (repL te.zero n) := by
                intro n; induction n with
                | zero => exact .nil
                | succ n ih => rw [repL_succ]; exact hTe.zVR.append ih
              exact this c
            · exact sl_VR hx.1 hx.2.1 hx.2.2 l c c hle (Nat.le_refl _) (.inl rfl)
        · exact Sim.fail
      · exact Sim.fail
    · exact Sim.fail
  · exact Sim.fail

theorem sim_convert (hE : EnvOK P env) (ht : TR φ tm a.tmps) (src dst : TypeId) (x : Operand) (call : CallH) :
    Sim P w0 φ (opConv src dst x env call tm) (do Pure.pure (.value (← convert src dst (a.eval x))) : Sem Next) RNext := by
  unfold opConv
  refine Sim.withO fun ts hts => Sim.withO fun td htd => Sim.withO fun v hv => Sim.value ?_
  have hTs := hE.ty _ _ hts
  have hTd := hE.ty _ _ htd
  have hr := ev_VR ht hv
  unfold convert
  refine Sim.look hTs.runU ?_
  refine Sim.look hTd.runU ?_
  unfold convV
  split
  · rename_i k k' n hd
    rw [hd, hr.int_inv]
    refine Sim.ofO fun r hr' => ?_
    simp only [ofI, Option.some.injEq] at hr'; subst hr'
    rw [wrapK_eq]
    cases ts.desc <;> exact Sim.pure (VR.int _ _)
  · rename_i s hd
    rw [hd, hr.str_inv]
    cases ts.desc <;> exact Sim.pure (VR.str _)
  · exact Sim.fail

end
end Go.Ax
