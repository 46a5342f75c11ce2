/- The abstract executor: regions whose order is open: the operations may change places.
Conditions: none. -/
import Derived.Test.YtjlhclmgjdabfaaGreatAxP
namespace Go.Ax
set_option linter.unusedVariables false
set_option linter.unusedSimpArgs false
set_option linter.unusedSectionVars false
open Go.RowKit (Below)

/-- Two tries that read alike. -/
def EqT {α : Type} (t u : T α) : Prop := ∀ n, t.get n = u.get n
theorem EqT.refl {α : Type} (t : T α) : EqT t t := fun _ => rfl
theorem EqT.trans {α : Type} {t u v : T α} (h : EqT t u) (h' : EqT u v) : EqT t v := fun n => (h n).trans (h' n)
theorem EqT.symm {α : Type} {t u : T α} (h : EqT t u) : EqT u t := fun n => (h n).symm
theorem EqT.put {t u : T Value} (h : EqT t u) (d : Option Tmp) (v : Value) : EqT (putT d v t) (putT d v u) := by
  cases d with
  | none => exact h
  | some d => intro n; show (t.set d v).get n = (u.set d v).get n; rw [T.get_set, T.get_set, h]

/-- An operation of the region with what its run in the executor's order was: the counter ahead of it and behind it, what it wrote, the block that it read. -/
structure En where
  e : PE
  c : Nat
  c' : Nat
  seg : List Nat
  blk : Option Nat

section
variable {env : Env} {call : CallH}

/-- The operation's run at a heap. -/
def StepE (env : Env) (call : CallH) (ops : List Oper) (x : En) (tm : T Value) (h : T AObj) (v : Value) (h' : T AObj) : Prop :=
  stepV ops x.e.o env call tm { h := h, c := x.c, log := [] } = some (v, { h := h', c := x.c', log := x.seg }) ∧ (wantedG ops tm x.e.o.guard = true → isQ x.e.cls = true → readsAt x.e.o.op tm = x.blk)

def RunE (env : Env) (call : CallH) (ops : List Oper) : List En → T Value → T AObj → T Value → T AObj → Prop
  | [], tm, h, tm', h' => EqT tm tm' ∧ EqT h h'
  | x :: l, tm, h, tm', h' => ∃ v h1, StepE env call ops x tm h v h1 ∧ RunE env call ops l (putT x.e.o.dst v tm) h1 tm' h'

theorem readsAt_congr {tm tm2 : T Value} (o : Op) (h : ∀ t, .tmp t ∈ o.operands.toList → tm.get t = tm2.get t) : readsAt o tm = readsAt o tm2 := by
  cases o with
  | load t x =>
    have hx : ev x tm = ev x tm2 := ev_congr x fun t e => h t (by rw [← e]; simp [Op.operands])
    show readsV (ev x tm) = readsV (ev x tm2); rw [hx]
  | slice t x lo hi mx =>
    have hx : ev x tm = ev x tm2 := ev_congr x fun t e => h t (by rw [← e]; simp [Op.operands])
    show readsS (ev x tm) = readsS (ev x tm2); rw [hx]
  | _ => rfl

theorem wantedG_congr {tm tm2 : T Value} (ops : List Oper) (o : Oper) (h : ∀ t, t ∈ looks ops o → tm.get t = tm2.get t) : wantedG ops tm o.guard = wantedG ops tm2 o.guard := by
  unfold wantedG
  cases hg : o.guard with
  | none => rfl
  | some g =>
    obtain ⟨j, w⟩ := g
    simp only
    unfold readT
    cases hs : slotOf (nthL ops j) with
    | none => rfl
    | some t => simp only; rw [h t (mem_looks.2 j w hg hs)]

/-- Other temporaries, the operation's own alike. -/
theorem StepE.tm {ops : List Oper} {x : En} {tm tm2 : T Value} {h h' : T AObj} {v : Value} (s : StepE env call ops x tm h v h') (ht : ∀ t, t ∈ looks ops x.e.o → tm.get t = tm2.get t) : StepE env call ops x tm2 h v h' := by
  obtain ⟨h1, h2⟩ := s
  refine ⟨by rw [← stepV_congr ops x.e.o ht]; exact h1, fun hw hq => ?_⟩
  rw [← wantedG_congr ops x.e.o ht] at hw
  rw [← readsAt_congr x.e.o.op fun t ht' => ht t (mem_looks.1 (mem_tmpsOf.2 ht'))]
  exact h2 hw hq

theorem StepE.seg {ops : List Oper} {x : En} {tm : T Value} {h h' : T AObj} {v : Value} (hc : GoodCall call) (s : StepE env call ops x tm h v h') :
    x.c ≤ x.c' ∧ (∀ b, b ∉ x.seg → (b < x.c ∨ x.c' ≤ b) → h'.get b = h.get b) ∧ (∀ b, h.get b = none → (b < x.c ∨ x.c' ≤ b) → h'.get b = none) ∧
      ∀ f h2, (∀ b, h2.get b = match f b with | some o => some o | none => h.get b) → (∀ b o, f b = some o → h.get b = none) → Free f x.c x.c' →
        ∃ h2', stepV ops x.e.o env call tm { h := h2, c := x.c, log := [] } = some (v, { h := h2', c := x.c', log := x.seg }) ∧ (∀ b, h2'.get b = match f b with | some o => some o | none => h'.get b) ∧ (∀ b o, f b = some o → h'.get b = none) := by
  obtain ⟨g1, seg, l1, u1, d1, x1⟩ := good_stepV hc ops x.e.o tm _ _ _ s.1
  simp only [List.append_nil] at l1
  have hseg : x.seg = seg := l1
  rw [hseg]
  refine ⟨g1, u1, fun b hb hr => ?_, fun f h2 e1 e2 e3 => ?_⟩
  · by_cases hs : b ∈ seg
    · rcases d1 b hs with h | h
      · exact absurd hb h
      · simp only at h; omega
    · rw [u1 b hs hr]; exact hb
  · obtain ⟨t', h3, h4, h5⟩ := x1 f { h := h2, c := x.c, log := [] } ⟨rfl, e1, e2⟩ e3
    refine ⟨t'.h, ?_, h4.h, h4.dom⟩
    rw [h3]
    obtain ⟨th, tc, tl⟩ := t'
    have : tc = x.c' := h4.c
    simp only [List.append_nil] at h5
    subst this; subst h5
    rfl

/-- A heap that reads alike. -/
theorem StepE.heap {ops : List Oper} {x : En} {tm : T Value} {h h' h2 : T AObj} {v : Value} (hc : GoodCall call) (s : StepE env call ops x tm h v h') (he : EqT h h2) : ∃ h2', StepE env call ops x tm h2 v h2' ∧ EqT h' h2' := by
  obtain ⟨_, _, _, hx⟩ := s.seg hc
  obtain ⟨h2', k1, k2, _⟩ := hx (fun _ => none) h2 (fun b => (he b).symm) (fun _ _ e => by cases e) (fun _ _ _ => rfl)
  exact ⟨h2', ⟨k1, s.2⟩, fun b => (k2 b).symm⟩

theorem RunE.congr {ops : List Oper} (hc : GoodCall call) : ∀ {l : List En} {tm tm2 : T Value} {h h2 : T AObj} {tm' : T Value} {h' : T AObj}, RunE env call ops l tm h tm' h' → EqT tm tm2 → EqT h h2 → RunE env call ops l tm2 h2 tm' h'
  | [], _, _, _, _, _, _, r, e1, e2 => ⟨e1.symm.trans r.1, e2.symm.trans r.2⟩
  | x :: l, tm, tm2, h, h2, tm', h', r, e1, e2 => by
    obtain ⟨v, h1, s, r'⟩ := r
    obtain ⟨h1', s', e3⟩ := (s.tm (tm2 := tm2) fun t _ => e1 t).heap hc e2
    exact ⟨v, h1', s', RunE.congr hc r' (e1.put _ _) e3⟩

/-- Two operations may change places. -/
structure Indep (ops : List Oper) (y x : En) : Prop where
  yx : ∀ d, y.e.o.dst = some d → d ∉ looks ops x.e.o ∧ x.e.o.dst ≠ some d
  xy : ∀ d, x.e.o.dst = some d → d ∉ looks ops y.e.o
  notW : isW x.e.cls = false
  mem : isQ x.e.cls = true → ∀ b, x.blk = some b → b ∉ y.seg ∧ (b < y.c ∨ y.c' ≤ b)

theorem put_put {t : T Value} {d e : Option Tmp} {u v : Value} (h : ∀ x, d = some x → e ≠ some x) : EqT (putT d u (putT e v t)) (putT e v (putT d u t)) := by
  cases d with
  | none => exact EqT.refl _
  | some d =>
    cases e with
    | none => exact EqT.refl _
    | some e =>
      have hne : e ≠ d := fun he => h d rfl (by rw [he])
      intro n
      show ((t.set e v).set d u).get n = ((t.set d u).set e v).get n
      simp only [T.get_set]
      by_cases h1 : n = d
      · rw [if_pos h1, if_neg (fun h2 => hne (h2.symm.trans h1)), if_pos h1]
      · rw [if_neg h1, if_neg h1]

theorem get_put_ne {t : T Value} {d : Option Tmp} {v : Value} {n : Nat} (h : d ≠ some n) : (putT d v t).get n = t.get n := by
  cases d with
  | none => rfl
  | some d => show (t.set d v).get n = _; rw [T.get_set_ne _ _ (fun e => h (by rw [e]))]

theorem swap {ops : List Oper} (hc : GoodCall call) {y x : En} {l : List En} (hi : Indep ops y x) (hcls : cls x.e.o.op env = x.e.cls) (hyx : y.c' ≤ x.c) {tm tm' : T Value} {h h' : T AObj}
    (habs : ∀ b, x.c ≤ b → b < x.c' → h.get b = none) (r : RunE env call ops (y :: x :: l) tm h tm' h') : RunE env call ops (x :: y :: l) tm h tm' h' := by
  obtain ⟨vy, hy, sy, vx, hyx', sx, r⟩ := r
  -- x's operands do not hang on y
  have sx0 : StepE env call ops x tm hy vx hyx' := sx.tm fun t ht => get_put_ne fun e => (hi.yx t e).1 ht
  have hdst : ∀ d, x.e.o.dst = some d → y.e.o.dst ≠ some d := fun d h1 h2 => (hi.yx d h2).2 h1
  obtain ⟨ym, yu, ya, yx⟩ := sy.seg hc
  -- y behind x
  have fin : ∀ hx h2, StepE env call ops x tm h vx hx → StepE env call ops y tm hx vy h2 → EqT hyx' h2 → RunE env call ops (x :: y :: l) tm h tm' h' := by
    intro hx h2 s1 s2 e
    refine ⟨vx, hx, s1, vy, h2, s2.tm fun t ht => (get_put_ne fun e => hi.xy t e ht).symm, r.congr hc ?_ e⟩
    exact put_put hdst
  cases hw : wantedG ops tm x.e.o.guard with
  | false =>
    -- x is passed over
    have hv := sx0.1
    unfold stepV at hv
    rw [hw] at hv
    injection hv with hv; injection hv with e1 e2
    injection e2 with e2 e3 e4
    subst e2
    refine fin h hy ⟨?_, fun h1 => by rw [hw] at h1; cases h1⟩ sy (EqT.refl _)
    unfold stepV; rw [hw, ← e1, ← e3, ← e4]; rfl
  | true =>
    cases hq : isQ x.e.cls with
    | true =>
      have hq' : isQ (cls x.e.o.op env) = true := by rw [hcls]; exact hq
      have hquiet := quiet_exec (call := call) x.e.o.op tm hq'
      have hblk := sx0.2 hw hq
      have hv := sx0.1
      unfold stepV at hv
      rw [hw] at hv
      obtain ⟨o, q1, q2⟩ := hquiet { h := hy, c := x.c, log := [] } { h := h, c := x.c, log := [] } (fun b hb => by
        rw [hblk] at hb
        obtain ⟨m1, m2⟩ := hi.mem hq b hb
        exact yu b m1 m2)
      have hv' : execOp x.e.o.op env call tm { h := hy, c := x.c, log := [] } = some (vx, { h := hyx', c := x.c', log := x.seg }) := hv
      rw [q1] at hv'
      cases o with
      | none => cases hv'
      | some v0 =>
        injection hv' with hv'; injection hv' with e1 e2
        injection e2 with e2 e3 e4
        subst e1; subst e2
        refine fin h hy ⟨?_, fun _ _ => hblk⟩ sy (EqT.refl _)
        unfold stepV; rw [hw]
        show execOp x.e.o.op env call tm _ = _
        rw [q2, ← e3, ← e4]; rfl
    | false =>
      have hal : cls x.e.o.op env = .alloc := by
        rw [hcls]
        have h1 := hi.notW
        cases hcc : x.e.cls <;> rw [hcc] at h1 hq <;> first | rfl | (simp [isW] at h1; done) | (simp [isQ] at hq; done)
      have hv := sx0.1
      unfold stepV at hv
      rw [hw] at hv
      have hv' : execOp x.e.o.op env call tm { h := hy, c := x.c, log := [] } = some (vx, { h := hyx', c := x.c', log := x.seg }) := hv
      rcases allocs_exec (call := call) x.e.o.op tm hal with ha | ⟨ob, f, ha⟩
      · rw [ha] at hv'; cases hv'
      · rw [ha] at hv'
        injection hv' with hv'; injection hv' with e1 e2
        injection e2 with e2 e3 e4
        simp only at e1 e2 e3 e4
        have hnone : h.get x.c = none := habs x.c (Nat.le_refl _) (by omega)
        obtain ⟨h2, k1, k2, k3⟩ := yx (fun b => if b = x.c then some ob else none) (h.set x.c ob) (fun b => by
            rw [T.get_set]
            by_cases hb : b = x.c
            · simp [hb]
            · simp [hb]) (fun b o hb => by
            by_cases hb' : b = x.c
            · rw [hb']; exact hnone
            · simp [hb'] at hb) (fun b h1 h2 => by
            have : b ≠ x.c := by omega
            simp [this])
        refine fin (h.set x.c ob) h2 ⟨?_, fun _ h1 => by rw [hq] at h1; cases h1⟩ ⟨k1, sy.2⟩ (fun b => ?_)
        · unfold stepV; rw [hw]
          show execOp x.e.o.op env call tm _ = _
          rw [ha, ← e1, ← e3, ← e4]
        · rw [k2, ← e2, T.get_set]
          by_cases hb : b = x.c
          · simp [hb]
          · simp [hb]

/-- An operation comes to the front. -/
theorem bubble {ops : List Oper} (hc : GoodCall call) {x : En} {l : List En} (hcls : cls x.e.o.op env = x.e.cls) : ∀ (pre : List En), (∀ y ∈ pre, Indep ops y x ∧ y.c' ≤ x.c) → ∀ {tm tm' : T Value} {h h' : T AObj},
    (∀ b, x.c ≤ b → b < x.c' → h.get b = none) → RunE env call ops (pre ++ x :: l) tm h tm' h' → RunE env call ops (x :: (pre ++ l)) tm h tm' h'
  | [], _, _, _, _, _, _, r => r
  | y :: pre, hp, tm, tm', h, h', habs, r => by
    obtain ⟨vy, hy, sy, r'⟩ := r
    have hyi := hp y List.mem_cons_self
    obtain ⟨ym, _, ya, _⟩ := sy.seg hc
    have habs' : ∀ b, x.c ≤ b → b < x.c' → hy.get b = none := fun b h1 h2 => ya b (habs b h1 h2) (.inr (by omega))
    have ih := bubble hc hcls pre (fun z hz => hp z (List.mem_cons_of_mem _ hz)) habs' r'
    exact swap hc hyi.1 hcls hyi.2 habs ⟨vy, hy, sy, ih⟩
end
end Go.Ax
