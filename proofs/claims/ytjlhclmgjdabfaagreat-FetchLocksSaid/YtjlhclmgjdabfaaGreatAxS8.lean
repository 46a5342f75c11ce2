/- The abstract executor: maps without entries.
Conditions: none. -/
import Derived.Test.YtjlhclmgjdabfaaGreatAxS6
namespace Go.Ax
set_option linter.unusedVariables false
set_option linter.unusedSimpArgs false
set_option linter.unusedSectionVars false
open Go.RowKit (Below)

section
variable {φ : Map} {w0 : Base} {w : World} {h : T AObj}

theorem alloc_heap_new' (w : World) (o : Obj) : (w.alloc o).heap[w.heap.size]? = some o := by
  show (w.heap.push o)[w.heap.size]? = some o
  simp

theorem frozen_alloc {o : Obj} (ho : ∀ cs e f, o ≠ .cells cs e f) (a : Addr) : (w.alloc o).frozen? a = w.frozen? a := by
  unfold World.frozen?
  rcases Nat.lt_trichotomy a.block w.heap.size with hl | hl | hl
  · rw [Below.heap_alloc _ _ _ hl]
  · rw [hl, alloc_heap_new', Array.getElem?_eq_none (Nat.le_refl _)]
    split
    · rename_i c x y z he; injection he with he; exact absurd he (ho _ _ _)
    · rfl
  · rw [Array.getElem?_eq_none (by rw [World.size_alloc]; omega), Array.getElem?_eq_none (by omega)]

theorem Rel.allocObj (r : Rel φ w0 w h) {o : Obj} (ho : ∀ cs e f, o ≠ .cells cs e f) : Rel φ w0 (w.alloc o) h := by
  have hobj : ∀ k x, w.heap[k]? = some x → (w.alloc o).heap[k]? = some x := fun k x hx => by rw [Below.heap_alloc _ _ _ (Array.getElem?_eq_some_iff.1 hx).1]; exact hx
  refine ⟨r.below.alloc r.below.size _, fun b s e t ro cs hb => ?_, r.apart, fun b l hb => ?_, fun x o1 hx => ?_, r.objs, fun b o hb ho => (r.maps b o hb ho).imp fun p ⟨h1, h2, h3⟩ => ⟨h1, h2, MapOK.keep h3 fun x y hx _ => hobj _ _ hx⟩⟩
  · obtain ⟨p, h1, h2⟩ := r.live b s e t ro cs hb
    exact ⟨p, h1, h2.keep (Le.refl _) (fun i hi => World.cell?_alloc_lt _ _ _ (h2.lt i hi)) (fun i _ => frozen_alloc ho _)⟩
  · obtain ⟨p, L, h1, h2, h3, h4⟩ := r.loop _ _ hb
    exact ⟨p, L, h1, h2, hobj _ _ h3, h4⟩
  · obtain ⟨h1, h2, h3⟩ := r.prot _ _ hx
    exact ⟨h1, h2, hobj _ _ h3⟩

theorem Rel.at_ (r : Rel φ w0 w h) {b : Nat} {o : AObj} (hb : h.get b = some o) : ∃ p, φ b = some p := by
  cases o with
  | cells s e t ro cs => obtain ⟨p, hp, _⟩ := r.live _ _ _ _ _ _ hb; exact ⟨p, hp⟩
  | loop l => obtain ⟨p, L, hp, _⟩ := r.loop _ _ hb; exact ⟨p, hp⟩
  | map => obtain ⟨p, hp, _⟩ := r.maps _ _ hb rfl; exact ⟨p, hp⟩
  | iter => obtain ⟨p, hp, _⟩ := r.maps _ _ hb rfl; exact ⟨p, hp⟩

theorem Rel.widen (r : Rel φ w0 w h) {ψ : Map} (hl : Le φ ψ) : Rel ψ w0 w h := by
  have hb' : ∀ b o p, h.get b = some o → ψ b = some p → φ b = some p := fun b o p hb hp => by
    obtain ⟨q, hq⟩ := r.at_ hb
    rw [hl _ _ hq] at hp; injection hp with hp; subst hp; exact hq
  refine ⟨r.below, fun b s e t ro cs hb => ?_, fun b b' s e t cs s' e' t' r' cs' p p' hb hb1 hne hp hp' => r.apart _ _ _ _ _ _ _ _ _ _ _ _ _ hb hb1 hne (hb' _ _ _ hb hp) (hb' _ _ _ hb1 hp'), fun b l hb => ?_, r.prot,
    fun b b' o o' p p' hb hb1 ho ho' hne hp hp' => r.objs _ _ _ _ _ _ hb hb1 ho ho' hne (hb' _ _ _ hb hp) (hb' _ _ _ hb1 hp'), fun b o hb ho => (r.maps b o hb ho).imp fun p ⟨h1, h2, h3⟩ => ⟨hl _ _ h1, h2, h3⟩⟩
  · obtain ⟨p, h1, h2⟩ := r.live b s e t ro cs hb
    exact ⟨p, hl _ _ h1, h2.keep hl (fun _ _ => rfl) (fun _ _ => rfl)⟩
  · obtain ⟨p, L, h1, h2, h3, h4⟩ := r.loop _ _ hb
    exact ⟨p, L, hl _ _ h1, h2, h3, h4.mono hl⟩

/-- A map without entries, or what ranges over one, is laid at an object's place. -/
theorem Rel.setMap (r : Rel φ w0 w h) {c : Nat} {p : Pl} (hc : φ c = some p) (hd : p.base = 0 ∧ Dummy p) {m : AObj} (hm : m.isMap = true) (hok : MapOK w0.heap.size w p.blk m)
    (hn : ∀ b o q, h.get b = some o → o.isCells = false → φ b = some q → b ≠ c → q.blk ≠ p.blk) : Rel φ w0 w (h.set c m) := by
  have hget : ∀ x o, (h.set c m).get x = some o → (x = c ∧ o = m) ∨ (x ≠ c ∧ h.get x = some o) := by
    intro x o hx
    rw [T.get_set] at hx
    by_cases e : x = c
    · rw [if_pos e] at hx; injection hx with hx; exact .inl ⟨e, hx.symm⟩
    · rw [if_neg e] at hx; exact .inr ⟨e, hx⟩
  have hmc := AObj.isMap_cells hm
  refine ⟨r.below, fun b s e t ro cs hb => ?_, fun b b' s e t cs s' e' t' r' cs' p p' hb hb1 hne hp hp' => ?_, fun b l' hb => ?_, r.prot, fun b b' o o' q q' hb hb1 ho ho' hne hq hq' => ?_, fun b o hb ho => ?_⟩
  · rcases hget _ _ hb with ⟨_, e2⟩ | ⟨_, e2⟩
    · subst e2; cases hmc
    · exact r.live _ _ _ _ _ _ e2
  · rcases hget _ _ hb with ⟨_, e2⟩ | ⟨_, e2⟩
    · subst e2; cases hmc
    · rcases hget _ _ hb1 with ⟨_, f2⟩ | ⟨_, f2⟩
      · subst f2; cases hmc
      · exact r.apart _ _ _ _ _ _ _ _ _ _ _ _ _ e2 f2 hne hp hp'
  · rcases hget _ _ hb with ⟨e1, e2⟩ | ⟨_, e2⟩
    · subst e2; cases hm
    · exact r.loop _ _ e2
  · rcases hget _ _ hb with ⟨e1, e2⟩ | ⟨e1, e2⟩
    · rcases hget _ _ hb1 with ⟨f1, f2⟩ | ⟨f1, f2⟩
      · exact absurd (e1.trans f1.symm) hne
      · subst e1
        rw [hc] at hq; injection hq with hq; subst hq
        exact fun e => hn _ _ _ f2 ho' hq' f1 e.symm
    · rcases hget _ _ hb1 with ⟨f1, f2⟩ | ⟨f1, f2⟩
      · subst f1
        rw [hc] at hq'; injection hq' with hq'; subst hq'
        exact hn _ _ _ e2 ho hq e1
      · exact r.objs _ _ _ _ _ _ e2 f2 ho ho' hne hq hq'
  · rcases hget _ _ hb with ⟨e1, e2⟩ | ⟨e1, e2⟩
    · subst e1; subst e2; exact ⟨p, hc, hd, hok⟩
    · exact r.maps _ _ e2 ho

theorem Rel.blk_lt (r : Rel φ w0 w h) {b : Nat} {o : AObj} {q : Pl} (hb : h.get b = some o) (ho : o.isCells = false) (hq : φ b = some q) : q.blk < w.heap.size := by
  have key : o.isMap = true → q.blk < w.heap.size := fun hm => by
    obtain ⟨p, h1, _, h3⟩ := r.maps _ _ hb hm
    rw [hq] at h1; injection h1 with h1; subst h1
    obtain ⟨x, h4, _⟩ := MapOK.obj h3
    exact (Array.getElem?_eq_some_iff.1 h4).1
  cases o with
  | cells => cases ho
  | loop l =>
    obtain ⟨p, L, h1, _, h3, _⟩ := r.loop _ _ hb
    rw [hq] at h1; injection h1 with h1; subst h1
    exact (Array.getElem?_eq_some_iff.1 h3).1
  | map => exact key rfl
  | iter => exact key rfl

theorem Rel.newMap (r : Rel φ w0 w h) {c : Nat} (hc : φ c = none) {o : Obj} (ho : MapObj o) {m : AObj} (hm : m.isMap = true) (hok : MapOK w0.heap.size (w.alloc o) w.heap.size m) :
    Rel (put φ c ⟨w.heap.size, 0, 0, 0, true⟩) w0 (w.alloc o) (h.set c m) := by
  refine ((r.allocObj ho.notCells).widen (put_le _ hc)).setMap (put_self _ _ _) ⟨rfl, rfl, rfl, rfl⟩ hm hok fun b o' q hb ho' hq hne => ?_
  rw [put_ne _ _ hne] at hq
  have := r.blk_lt hb ho' hq
  simp only; omega
end

section
variable {P : Program} {w0 : Base} {φ : Map} {tm : T Value} {a : Act} {env : Env}

theorem sim_newMapObj {m : AObj} {o : Obj} {s s1 : HS} {w : World} {k : Nat} (hs : newObj m s = some (k, s1)) (r : Rel φ w0 w s.h) (f : Fr φ s.c s1.c) (ho : MapObj o) (hm : m.isMap = true)
    (hok : MapOK w0.heap.size (w.alloc o) w.heap.size m) :
    Le φ (put φ k ⟨w.heap.size, 0, 0, 0, true⟩) ∧ Gr φ (put φ k ⟨w.heap.size, 0, 0, 0, true⟩) s.c s1.c ∧ Rel (put φ k ⟨w.heap.size, 0, 0, 0, true⟩) w0 (w.alloc o) s1.h := by
  rw [newObj_eq] at hs
  injection hs with hs; injection hs with e1 e2; subst e1; subst e2
  have hc : φ s.c = none := f _ (Nat.le_refl _) (Nat.lt_succ_self _)
  exact ⟨put_le _ hc, put_gr _ _ _, r.newMap hc ho hm hok⟩

theorem sim_makeMap (t : TypeId) (x : Option Operand) (call : CallH) : Sim P w0 φ (opMap x env call tm) (do Pure.pure (.value (← Instr.makeMap t (x.map a.eval))) : Sem Next) RNext := by
  unfold opMap
  split
  · refine Sim.value fun s w v s' hm r f => ?_
    obtain ⟨k, s1, h1, h2⟩ := bind_some hm
    injection h2 with h2; injection h2 with e1 e2; subst e1; subst e2
    have hB : w0.heap.size ≤ w.heap.size := r.below.size
    obtain ⟨l1, g1, r1⟩ := sim_newMapObj (o := .map #[] 0) h1 r f (.inl rfl) rfl ⟨hB, alloc_heap_new' _ _⟩
    exact ⟨.map (some w.heap.size), _, _, rfl, l1, g1, r1, .map _ _ (put_self _ _ _)⟩
  · exact Sim.fail

theorem sim_rangeM (hE : EnvOK P env) (ht : TR φ tm a.tmps) (t : TypeId) (x : Operand) (call : CallH) : Sim P w0 φ (opRange t x env call tm) (do Pure.pure (.value (← Instr.range t (a.eval x))) : Sem Next) RNext := by
  unfold opRange
  refine Sim.withO fun ti hti => ?_
  have hT := hE.ty _ _ hti
  split
  · rename_i ke ve hd
    refine Sim.withO fun v hv => Sim.value ?_
    have hr := ev_VR ht hv
    generalize a.eval x = u at hr
    unfold rangeV
    split
    · cases hr
      intro s w v s' hm r f
      unfold newIter at hm
      obtain ⟨k, s1, h1, h2⟩ := bind_some hm
      injection h2 with h2; injection h2 with e1 e2; subst e1; subst e2
      have hB : w0.heap.size ≤ w.heap.size := r.below.size
      obtain ⟨l1, g1, r1⟩ := sim_newMapObj (o := .mapIter none 0 #[] 0) h1 r f (.inr ⟨_, rfl⟩) rfl ⟨hB, .inl (alloc_heap_new' _ _)⟩
      refine ⟨.pointer (some ⟨w.heap.size, 0 + 0, none⟩), _, _, ?_, l1, g1, r1, .ptr _ 0 _ (put_self _ _ _)⟩
      unfold Instr.range
      rw [Sem.run_bind, hT.runU, Result.andThen_ok, hd]
      rfl
    · cases hr with
      | map b p hp =>
      refine Sim.getObj fun o s w v s' hg hm r f => ?_
      unfold iterOf at hm
      split at hm
      · unfold newIter at hm
        obtain ⟨k, s1, h1, h2⟩ := bind_some hm
        injection h2 with h2; injection h2 with e1 e2; subst e1; subst e2
        obtain ⟨q, hq, _, hq2⟩ := r.maps _ _ hg rfl
        rw [hp] at hq; injection hq with hq; subst hq
        have hB : w0.heap.size ≤ w.heap.size := r.below.size
        have hlt := (Array.getElem?_eq_some_iff.1 hq2.2).1
        obtain ⟨l1, g1, r1⟩ := sim_newMapObj (o := .mapIter (some p.blk) 0 #[] 0) h1 r f (.inr ⟨_, rfl⟩) rfl ⟨hB, .inr ⟨_, alloc_heap_new' _ _, hq2.1, by rw [Below.heap_alloc _ _ _ hlt]; exact hq2.2⟩⟩
        refine ⟨.pointer (some ⟨w.heap.size, 0 + 0, none⟩), _, _, ?_, l1, g1, r1, .ptr _ 0 _ (put_self _ _ _)⟩
        unfold Instr.range
        have hgo : (Go.getObj p.blk).run P w = .ok (.map #[] 0) w := by unfold Go.getObj; simp only [Sem.run, hq2.2]
        rw [Sem.run_bind, hT.runU, Result.andThen_ok, hd]
        show Sem.run P (Go.getObj p.blk >>= _) w = _
        rw [Sem.run_bind, hgo]
        rfl
      · cases hm
    · exact Sim.fail
  · exact Sim.fail

theorem sim_next (ht : TR φ tm a.tmps) (x : Operand) (b : Bool) (t : TypeId) (call : CallH) : Sim P w0 φ (opNext x b env call tm) (do Pure.pure (.value (← Instr.next (a.eval x) b t)) : Sem Next) RNext := by
  unfold opNext
  split
  · exact Sim.fail
  · refine Sim.withO fun v hv => Sim.value ?_
    have hr := ev_VR ht hv
    generalize a.eval x = u at hr
    unfold nextV
    split
    · rename_i ad
      split
      · rename_i ho hs
        obtain ⟨blk, off, spot⟩ := ad
        simp only at ho hs
        subst ho; subst hs
        cases hr with
        | ptr _ _ p hp =>
        refine Sim.getObj fun o s w v s' hg hm r f => ?_
        unfold nextOf at hm
        split at hm
        · injection hm with hm; injection hm with e1 e2; subst e1; subst e2
          obtain ⟨q, hq, ⟨hq0, _⟩, hq2⟩ := r.maps _ _ hg rfl
          rw [hp] at hq; injection hq with hq; subst hq
          refine ⟨.tuple #[.bool false], w, φ, ?_, Le.refl _, Gr.refl _ _ _, r, .tuple [.bool false] [.bool false] (.cons (.bool _) .nil)⟩
          rw [hq0]
          unfold Instr.next
          rcases hq2.2 with k1 | ⟨m, k1, k2, k3⟩
          · have hgo : (Go.getObj p.blk).run P w = .ok (.mapIter none 0 #[] 0) w := by unfold Go.getObj; simp only [Sem.run, k1]
            show Sem.run P (Go.getObj p.blk >>= _) w = _
            rw [Sem.run_bind, hgo]
            rfl
          · have hgo : (Go.getObj p.blk).run P w = .ok (.mapIter (some m) 0 #[] 0) w := by unfold Go.getObj; simp only [Sem.run, k1]
            have hgm : (Go.getObj m).run P w = .ok (.map #[] 0) w := by unfold Go.getObj; simp only [Sem.run, k3]
            show Sem.run P (Go.getObj p.blk >>= _) w = _
            rw [Sem.run_bind, hgo]
            show Sem.run P (Go.getObj m >>= _) w = _
            rw [Sem.run_bind, hgm]
            simp [choose, Sem.run, Sem.run_bind, Question.forced]
        · cases hm
      · exact Sim.fail
    · exact Sim.fail
end
end Go.Ax
