/- The abstract executor: calls with arguments: rows of plain cells that came in.
Conditions: none. -/
import Derived.Test.YtjlhclmgjdabfaaGreatAxF
namespace Go.Ax
set_option linter.unusedVariables false
set_option linter.unusedSimpArgs false
set_option linter.unusedSectionVars false
open Go.RowKit (Below)

section
variable {P : Program} {env : Env}

theorem VR.plain {φ : Map} {v : Value} (h : constOK1 v = true) : VR φ v v := by
  cases v with
  | bool b => exact .bool b
  | int k n => exact .int k n
  | string s => exact .str s
  | pointer a => cases a with
    | none => exact .nilp
    | some a => cases h
  | slice a l c => cases a with
    | none => cases l with
      | zero => cases c with
        | zero => exact .nils 0 0 (Nat.le_refl _)
        | succ c => cases h
      | succ l => cases h
    | some a => cases h
  | nilFunc => exact .nilf
  | nilIface => exact .nili
  | map a => cases a with
    | none => exact .nilm
    | some a => cases h
  | _ => cases h

theorem VRs.plain {φ : Map} : ∀ {l : List Value}, (∀ v ∈ l, constOK1 v = true) → VRs φ l l
  | [], _ => .nil
  | v :: l, h => .cons (VR.plain (h v List.mem_cons_self)) (VRs.plain fun u hu => h u (List.mem_cons_of_mem _ hu))

/-- A row of plain cells that was there: it may be read. -/
theorem Rel.input {φ : Map} {w0 : Base} {w : World} {h : T AObj} (r : Rel φ w0 w h) {c : Nat} (hc : φ c = none) (b off es : Nat) (vs : List Value) (hp : ∀ v ∈ vs, constOK1 v = true)
    (hv : ∀ i v, vs[i]? = some v → w.cell? ⟨b, off + i, none⟩ = some v) (hB : b < w0.heap.size ∨ vs.length = 0) :
    Rel (put φ c ⟨b, off, vs.length, es, true⟩) w0 w (h.set c (.cells vs.length es true true (T.ofList vs))) := by
  have hle := put_le (⟨b, off, vs.length, es, true⟩ : Pl) hc
  have hfresh : ∀ x o, h.get x = some o → x ≠ c := fun x o hx e => by
    obtain ⟨p, hp⟩ := r.at_ hx
    rw [e, hc] at hp; cases hp
  have rw' := r.widen hle
  have hget : ∀ x o, (h.set c (.cells vs.length es true true (T.ofList vs))).get x = some o → (x = c ∧ o = .cells vs.length es true true (T.ofList vs)) ∨ (x ≠ c ∧ h.get x = some o) := by
    intro x o hx
    rw [T.get_set] at hx
    by_cases e : x = c
    · rw [if_pos e] at hx; injection hx with hx; exact .inl ⟨e, hx.symm⟩
    · rw [if_neg e] at hx; exact .inr ⟨e, hx⟩
  have hlen : ∀ i, i < vs.length → ∃ v, vs[i]? = some v := fun i hi => ⟨_, List.getElem?_eq_getElem hi⟩
  refine ⟨r.below, fun x s e t ro cs hx => ?_, fun x y s e t cs s' e' t' r' cs' p p' hx hy hne hpx hpy => ?_, fun x l hx => ?_, r.prot, fun x y o o' p p' hx hy ho ho' hne hpx hpy => ?_, fun x o hx ho => ?mp⟩
  case mp =>
    rcases hget _ _ hx with ⟨_, e2⟩ | ⟨_, e2⟩
    · subst e2; cases ho
    · exact rw'.maps _ _ e2 ho
  · rcases hget _ _ hx with ⟨e1, e2⟩ | ⟨_, e2⟩
    · injection e2 with k1 k2 k3 k4 k5
      subst k1; subst k2; subst k3; subst k4; subst k5; subst e1
      refine ⟨_, put_self _ _ _, ⟨rfl, rfl, Nat.le_refl _, fun i hi => ?_, fun i hi => ?_, fun h => by cases h⟩⟩
      · obtain ⟨v, hvi⟩ := hlen i hi
        exact ⟨v, v, by rw [T.get_ofList]; exact hvi, hv i v hvi, VR.plain (hp v (List.mem_of_getElem? hvi))⟩
      · obtain ⟨v, hvi⟩ := hlen i hi
        have h1 := hv i v hvi
        unfold Pl.at; simp only; rw [h1]; rfl
    · exact rw'.live _ _ _ _ _ _ e2
  · rcases hget _ _ hx with ⟨_, e2⟩ | ⟨e1, e2⟩
    · injection e2 with k1 k2 k3 k4 k5; cases k4
    · rcases hget _ _ hy with ⟨f1, f2⟩ | ⟨_, f2⟩
      · -- a row that may be written lies in newer memory, or is empty
        by_cases hz : p.ext = 0
        · exact .inl hz
        · by_cases hz' : p'.ext = 0
          · exact .inr (.inl hz')
          · obtain ⟨q, hq, hl⟩ := rw'.live _ _ _ _ _ _ e2
            rw [hpx] at hq; injection hq with hq; subst hq
            subst f1
            rw [put_self] at hpy; injection hpy with hpy; subst hpy
            refine .inr (.inr (.inl fun e => ?_))
            have h1 := (hl.own rfl).1
            rcases hB with hB | hB
            · simp only at e; omega
            · exact hz' hB
      · exact rw'.apart _ _ _ _ _ _ _ _ _ _ _ _ _ e2 f2 hne hpx hpy
  · rcases hget _ _ hx with ⟨_, e2⟩ | ⟨_, e2⟩
    · cases e2
    · exact rw'.loop _ _ e2
  · rcases hget _ _ hx with ⟨_, e2⟩ | ⟨_, e2⟩
    · subst e2; cases ho
    · rcases hget _ _ hy with ⟨_, f2⟩ | ⟨_, f2⟩
      · subst f2; cases ho'
      · exact rw'.objs _ _ _ _ _ _ e2 f2 ho ho' hne hpx hpy

/-- A call, told by the executor, out of a heap that stands for what is there. -/
theorem open_run (hE : EnvOK P env) (hp : EnvPlain env) (lf n f : Nat) (args us : List Value) (s s' : HS) (b : Bool) (w : World) (φ : Map) (h : callN env lf n (.fn f) args s = some (.bool b, s')) (hv : VRs φ args us) (hr : Rel φ (baseOf w) w s.h) (hf : Fr φ s.c s'.c) :
    Calls P f ⟨us⟩ w fun e w' => e = .returned (.bool b) ∧ Below w.heap.size w w' := by
  have := ((callN_ok hE hp lf n).fn f args s _ s' (baseOf w) w φ us 0 none h hv hr hf).2
  rw [FW_none] at this
  refine (callsIn_wide.1 this).mono fun e w' he => ?_
  obtain ⟨u, φ', e1, _, _, r1, v1⟩ := he
  exact ⟨by rw [e1, v1.bool_inv], r1.below⟩

/-- A slice that came in: nil, or a row of plain cells. -/
structure Came (w : World) (es : Nat) (v : Value) (l : Nat) (vs : List Value) : Prop where
  isIt : (v = .slice none 0 0 ∧ l = 0 ∧ vs = []) ∨ ∃ b off c, v = .slice (some ⟨b, off, none⟩) l c ∧ l ≤ c ∧ vs.length = c * es ∧ b < w.heap.size ∧ ∀ i x, vs[i]? = some x → w.cell? ⟨b, off + i, none⟩ = some x
  plain : ∀ x ∈ vs, constOK1 x = true

/-- The abstract slice that stands for it: object number k. -/
noncomputable def cameV (k es l : Nat) (vs : List Value) (v : Value) : Value := match v with
  | .slice (some _) l c => .slice (some ⟨k, 0, none⟩) l c
  | _ => .slice none 0 0

theorem Came.lay {w : World} {es : Nat} {v : Value} {l : Nat} {vs : List Value} (hc : Came w es v l vs) {φ : Map} {h : T AObj} (r : Rel φ (baseOf w) w h) {k : Nat} (hk : φ k = none) :
    ∃ φ', Le φ φ' ∧ Gr φ φ' k (k + 1) ∧ Rel φ' (baseOf w) w (h.set k (.cells vs.length es true true (T.ofList vs))) ∧ VR φ' (cameV k es l vs v) v := by
  rcases hc.isIt with ⟨e1, e2, e3⟩ | ⟨b, off, c, e1, h1, h2, h3, h4⟩
  · subst e1; subst e2; subst e3
    exact ⟨_, put_le _ hk, put_gr φ k _, r.input hk 0 0 es [] hc.plain (fun i x h => by simp at h) (.inr rfl), .nils 0 0 (Nat.le_refl _)⟩
  · subst e1
    exact ⟨_, put_le _ hk, put_gr φ k _, r.input hk b off es vs hc.plain h4 (.inl h3), .sl k 0 l c c ⟨b, off, vs.length, es, true⟩ (put_self _ _ _) h1 (Nat.le_refl _) (.inl rfl)⟩
end
end Go.Ax
