/- The abstract executor: objects of the heap that are no cells.
Conditions: none. -/
import Derived.RangeFuncLeaves
import Derived.RangeFuncRecord
import Derived.Test.YtjlhclmgjdabfaaGreatAxQ3
namespace Go.Ax
set_option linter.unusedVariables false
set_option linter.unusedSimpArgs false
set_option linter.unusedSectionVars false
open Go.RowKit (Below)

/-- One block more that must not be touched. -/
def Base.add (w0 : Base) (k : Nat) (o : Obj) : Base := { toWorld := w0.toWorld, prot := fun x => if x = k then some o else w0.prot x }

section
variable {φ : Map} {w0 : Base} {w : World} {h : T AObj}

theorem Rel.protect (r : Rel φ w0 w h) {k : Nat} {o : Obj} (ho : ProtObj o) (hB : w0.heap.size ≤ k) (hk : w.heap[k]? = some o) : Rel φ (w0.add k o) w h :=
  ⟨r.below, r.live, r.apart, r.loop, (fun x o' hx => by
    have hx' : (if x = k then some o else w0.prot x) = some o' := hx
    by_cases e : x = k
    · rw [if_pos e] at hx'; injection hx' with hx'; subst hx'; subst e; exact ⟨ho, hB, hk⟩
    · rw [if_neg e] at hx'; exact r.prot x o' hx'), r.objs, r.maps⟩

theorem Rel.unprotect {k : Nat} {o : Obj} (r : Rel φ (w0.add k o) w h) (hn : w0.prot k = none) : Rel φ w0 w h :=
  ⟨r.below, r.live, r.apart, r.loop, (fun x o' hx => by
    have e : x ≠ k := fun e => by rw [e, hn] at hx; cases hx
    exact r.prot x o' (show (if x = k then some o else w0.prot x) = some o' by rw [if_neg e]; exact hx)), r.objs, r.maps⟩

theorem Rel.prot_self {k : Nat} {o : Obj} (r : Rel φ (w0.add k o) w h) : w.heap[k]? = some o := (r.prot k o (show (if k = k then some o else w0.prot k) = some o by rw [if_pos rfl])).2.2

theorem Rel.prot_lt (r : Rel φ w0 w h) {k : Nat} (hk : w.heap.size ≤ k) : w0.prot k = none := by
  cases hp : w0.prot k with
  | none => rfl
  | some o =>
    obtain ⟨_, _, h3⟩ := r.prot k o hp
    have := (Array.getElem?_eq_some_iff.1 h3).1
    omega

/-- The place of a live loop is not one of those. -/
theorem Rel.loop_free (r : Rel φ w0 w h) {b : Nat} {l : LoopR} (hb : h.get b = some (.loop l)) {p : Pl} (hp : φ b = some p) : w0.prot p.blk = none := by
  obtain ⟨q, L, h1, _, h3, h4⟩ := r.loop _ _ hb
  rw [hp] at h1; injection h1 with h1; subst h1
  cases hq : w0.prot p.blk with
  | none => rfl
  | some o =>
    obtain ⟨k1, _, k3⟩ := r.prot _ _ hq
    rw [h3] at k3; injection k3 with k3; subst k3
    rcases k1 with k1 | ⟨L', k1, k2⟩
    · cases k1
    · injection k1 with k1; subst k1; rw [h4.state] at k2; cases k2

theorem cell_putObj {k : Nat} {o o' : Obj} (hk : w.heap[k]? = some o) (ho : ∀ cs e f, o ≠ .cells cs e f) (ho' : ∀ cs e f, o' ≠ .cells cs e f) (a : Addr) : (w.putObj k o').cell? a = w.cell? a := by
  unfold World.cell?
  by_cases e : a.block = k
  · rw [e, World.putObj_heap_same (Array.getElem?_eq_some_iff.1 hk).1, hk]
    split
    · rename_i c x y he; injection he with he; exact absurd he (ho' _ _ _)
    · split
      · rename_i c x y he; injection he with he; exact absurd he (ho _ _ _)
      · rfl
  · rw [World.putObj_heap_other e]

theorem frozen_putObj {k : Nat} {o o' : Obj} (hk : w.heap[k]? = some o) (ho : ∀ cs e f, o ≠ .cells cs e f) (ho' : ∀ cs e f, o' ≠ .cells cs e f) (a : Addr) : (w.putObj k o').frozen? a = w.frozen? a := by
  unfold World.frozen?
  by_cases e : a.block = k
  · rw [e, World.putObj_heap_same (Array.getElem?_eq_some_iff.1 hk).1, hk]
    split
    · rename_i c x y z he; injection he with he; exact absurd he (ho' _ _ _)
    · split
      · rename_i c x y z he; injection he with he; exact absurd he (ho _ _ _)
      · rfl
  · rw [World.putObj_heap_other e]

theorem Rel.putObj (r : Rel φ w0 w h) {k : Nat} {o o' : Obj} (hk : w.heap[k]? = some o) (ho : ∀ cs e f, o ≠ .cells cs e f) (ho' : ∀ cs e f, o' ≠ .cells cs e f) (hB : w0.heap.size ≤ k) (hp : w0.prot k = none)
    (hl : ∀ b l p, h.get b = some (.loop l) → φ b = some p → p.blk ≠ k) (hm : ¬ MapObj o := by intro hh; rcases hh with hh | ⟨_, hh⟩ <;> cases hh) : Rel φ w0 (w.putObj k o') h := by
  refine ⟨⟨r.below.os, r.below.tape, r.below.output, by rw [World.putObj_size]; exact r.below.size, fun i hi => ?_⟩, fun b s e t ro cs hb => ?_, r.apart, fun b l hb => ?_, fun x o1 hx => ?_, r.objs, fun b o hb ho => (r.maps b o hb ho).imp fun p ⟨h1, h2, h3⟩ => ⟨h1, h2, MapOK.keep h3 fun x y hx hy => ?mp⟩⟩
  case mp =>
    rw [World.putObj_heap_other (fun e => hm (by rw [e, hk] at hx; injection hx with hx; rw [hx]; exact hy))]; exact hx
  · rw [World.putObj_heap_other (by omega)]; exact r.below.block i hi
  · obtain ⟨p, h1, h2⟩ := r.live b s e t ro cs hb
    exact ⟨p, h1, h2.keep (Le.refl _) (fun i _ => cell_putObj hk ho ho' _) (fun i _ => frozen_putObj hk ho ho' _)⟩
  · obtain ⟨p, L, h1, h2, h3, h4⟩ := r.loop _ _ hb
    exact ⟨p, L, h1, h2, by rw [World.putObj_heap_other (hl _ _ _ hb h1)]; exact h3, h4⟩
  · obtain ⟨h1, h2, h3⟩ := r.prot _ _ hx
    exact ⟨h1, h2, by rw [World.putObj_heap_other (fun e => by rw [e, hp] at hx; cases hx)]; exact h3⟩

/-- A loop is laid at an object's place. -/
theorem Rel.setLoop (r : Rel φ w0 w h) {c : Nat} {p : Pl} (hc : φ c = some p) (hd : Dummy p) (hB : w0.heap.size ≤ p.blk) {L : Loop} (hk : w.heap[p.blk]? = some (.loop L)) {l : LoopR} (hL : LoopOK φ l L)
    (hl : ∀ b l' q, h.get b = some (.loop l') → φ b = some q → b ≠ c → q.blk ≠ p.blk) : Rel φ w0 w (h.set c (.loop l)) := by
  have hget : ∀ x o, (h.set c (.loop l)).get x = some o → (x = c ∧ o = .loop l) ∨ (x ≠ c ∧ h.get x = some o) := by
    intro x o hx
    rw [T.get_set] at hx
    by_cases e : x = c
    · rw [if_pos e] at hx; injection hx with hx; exact .inl ⟨e, hx.symm⟩
    · rw [if_neg e] at hx; exact .inr ⟨e, hx⟩
  have hnl : ∀ x o q, h.get x = some o → o.isCells = false → φ x = some q → x ≠ c → q.blk ≠ p.blk := by
    intro x o q hx ho hq hne
    have hmp : o.isMap = true → q.blk ≠ p.blk := fun ho e => by
      obtain ⟨p1, h1, _, h3⟩ := r.maps _ _ hx ho
      obtain ⟨y, h4, h5⟩ := MapOK.obj h3
      rw [hq] at h1; injection h1 with h1; subst h1
      rw [e, hk] at h4; injection h4 with h4
      exact h5.notLoop _ h4.symm
    cases o with
    | cells s e t ro cs => cases ho
    | loop l' => exact hl _ _ _ hx hq hne
    | map => exact hmp rfl
    | iter => exact hmp rfl
  refine ⟨r.below, fun b s e t ro cs hb => ?_, fun b b' s e t cs s' e' t' r' cs' p p' hb hb1 hne hp hp' => ?_, fun b l' hb => ?_, r.prot, fun b b' o o' q q' hb hb1 ho ho' hne hq hq' => ?_, fun b1 o hb1 ho => ?mp⟩
  case mp =>
    rcases hget _ _ hb1 with ⟨e1, e2⟩ | ⟨e1, e2⟩
    · subst e2; cases ho
    · exact r.maps _ _ e2 ho
  · rcases hget _ _ hb with ⟨_, e2⟩ | ⟨_, e2⟩
    · cases e2
    · exact r.live _ _ _ _ _ _ e2
  · rcases hget _ _ hb with ⟨_, e2⟩ | ⟨_, e2⟩
    · cases e2
    · rcases hget _ _ hb1 with ⟨_, f2⟩ | ⟨_, f2⟩
      · cases f2
      · exact r.apart _ _ _ _ _ _ _ _ _ _ _ _ _ e2 f2 hne hp hp'
  · rcases hget _ _ hb with ⟨e1, e2⟩ | ⟨_, e2⟩
    · injection e2 with e2; subst e2; subst e1
      exact ⟨p, L, hc, ⟨hB, hd⟩, hk, hL⟩
    · exact r.loop _ _ e2
  · rcases hget _ _ hb with ⟨e1, e2⟩ | ⟨e1, e2⟩
    · rcases hget _ _ hb1 with ⟨f1, f2⟩ | ⟨f1, f2⟩
      · exact absurd (e1.trans f1.symm) hne
      · subst e1
        rw [hc] at hq; injection hq with hq; subst hq
        exact fun e => hnl _ _ _ f2 ho' hq' f1 e.symm
    · rcases hget _ _ hb1 with ⟨f1, f2⟩ | ⟨f1, f2⟩
      · subst f1
        rw [hc] at hq'; injection hq' with hq'; subst hq'
        exact hnl _ _ _ e2 ho hq e1
      · exact r.objs _ _ _ _ _ _ e2 f2 ho ho' hne hq hq'

/-- A loop gives way to what stands for it while a round runs. -/
theorem Rel.toBusy (r : Rel φ w0 w h) {c : Nat} {p : Pl} (hc : φ c = some p) (hd : Dummy p) : Rel φ w0 w (h.set c busyO) := by
  have hget : ∀ x o, (h.set c busyO).get x = some o → (x = c ∧ o = busyO) ∨ (x ≠ c ∧ h.get x = some o) := by
    intro x o hx
    rw [T.get_set] at hx
    by_cases e : x = c
    · rw [if_pos e] at hx; injection hx with hx; exact .inl ⟨e, hx.symm⟩
    · rw [if_neg e] at hx; exact .inr ⟨e, hx⟩
  obtain ⟨d1, d2, d3⟩ := hd
  refine ⟨r.below, fun b s e t ro cs hb => ?_, fun b b' s e t cs s' e' t' r' cs' q q' hb hb1 hne hq hq' => ?_, fun b l' hb => ?_, r.prot, fun b b' o o' q q' hb hb1 ho ho' hne hq hq' => ?_, fun b1 o hb1 ho => ?mp⟩
  case mp =>
    rcases hget _ _ hb1 with ⟨e1, e2⟩ | ⟨e1, e2⟩
    · subst e2; cases ho
    · exact r.maps _ _ e2 ho
  · rcases hget _ _ hb with ⟨e1, e2⟩ | ⟨_, e2⟩
    · injection e2 with k1 k2 k3 k4 k5
      subst k1; subst k2; subst k3; subst k4; subst e1
      exact ⟨p, hc, ⟨d2, d3, Nat.zero_le _, (fun i hi => by omega), (fun i hi => by omega), (fun h => by cases h)⟩⟩
    · exact r.live _ _ _ _ _ _ e2
  · rcases hget _ _ hb with ⟨_, e2⟩ | ⟨_, e2⟩
    · injection e2 with k1 k2 k3 k4 k5; cases k4
    · rcases hget _ _ hb1 with ⟨f1, f2⟩ | ⟨_, f2⟩
      · subst f1; rw [hc] at hq'; injection hq' with hq'; subst hq'; exact .inr (.inl d1)
      · exact r.apart _ _ _ _ _ _ _ _ _ _ _ _ _ e2 f2 hne hq hq'
  · rcases hget _ _ hb with ⟨e1, e2⟩ | ⟨_, e2⟩
    · cases e2
    · exact r.loop _ _ e2
  · rcases hget _ _ hb with ⟨e1, e2⟩ | ⟨e1, e2⟩
    · subst e2; cases ho
    · rcases hget _ _ hb1 with ⟨f1, f2⟩ | ⟨f1, f2⟩
      · subst f2; cases ho'
      · exact r.objs _ _ _ _ _ _ e2 f2 ho ho' hne hq hq'
end
end Go.Ax
