/- The abstract executor: regions whose order is open: the run of the plan, entry by entry.
Conditions: none. -/
import Derived.Test.YtjlhclmgjdabfaaGreatAxQ2
namespace Go.Ax
set_option linter.unusedVariables false
set_option linter.unusedSimpArgs false
set_option linter.unusedSectionVars false
open Go.RowKit (Below)

section
variable {env : Env} {call : CallH}

theorem memN_iff (b : Nat) : ∀ (l : List Nat), memN b l = true ↔ b ∈ l
  | [] => by simp [memN]
  | x :: l => by
    unfold memN
    rw [T.nbeq]
    by_cases h : b = x
    · simp [h]
    · rw [decide_eq_false h]; simp [memN_iff b l, h]

theorem clear_spec (b m : Nat) : ∀ (l : Recs), clear? b m l = true → ∀ r ∈ l, m.testBit r.1 = false → b < r.2.1 ∧ b ∉ r.2.2
  | [], _, r, hr => by cases hr
  | (i, c, seg) :: l, h, r, hr => by
    unfold clear? at h
    rw [bit_eq, nblt] at h
    intro hm
    cases h1 : m.testBit i with
    | true =>
      rw [h1] at h
      rcases List.mem_cons.1 hr with e | hr
      · subst e; rw [h1] at hm; cases hm
      · exact clear_spec b m l h r hr hm
    | false =>
      rw [h1] at h
      by_cases h2 : b < c
      · rw [decide_eq_true h2] at h
        cases h3 : memN b seg with
        | true => rw [h3] at h; cases h
        | false =>
          rw [h3] at h
          rcases List.mem_cons.1 hr with e | hr
          · subst e
            refine ⟨h2, fun hb => ?_⟩
            rw [(memN_iff b seg).2 hb] at h3; cases h3
          · exact clear_spec b m l h r hr hm
      · rw [decide_eq_false h2] at h; cases h

/-- The quiet ones: what they answer, with any log. -/
theorem quiet_step (ops : List Oper) (e : PE) (hcls : e.cls = cls e.o.op env) (hq : isQ e.cls = true) (tm : T Value) {s s' : HS} {tm' : T Value}
    (h : stepOp ops e.o env call tm s = some (tm', s')) : s' = s ∧ ∃ v, tm' = putT e.o.dst v tm ∧ stepV ops e.o env call tm { h := s.h, c := s.c, log := [] } = some (v, { h := s.h, c := s.c, log := [] }) := by
  rw [stepOp_eq] at h
  obtain ⟨v, s1, h1, h2⟩ := bind_some h
  injection h2 with h2; injection h2 with e1 e2; subst e1; subst e2
  have hqu : Quiet (readsAt e.o.op tm) (stepV ops e.o env call tm) := by
    unfold stepV; split
    · exact quiet_exec _ _ (by rw [← hcls]; exact hq)
    · exact quiet_pure _ _
  obtain ⟨r, q1, q2⟩ := hqu s { h := s.h, c := s.c, log := [] } (fun _ _ => rfl)
  rw [h1] at q1
  cases r with
  | none => cases q1
  | some v0 =>
    injection q1 with q1; injection q1 with e1 e2
    subst e1; subst e2
    exact ⟨rfl, _, rfl, q2⟩

theorem reads_pure (o : Op) (tm : T Value) (h : cls o env = .pure) : readsAt o tm = none := by
  cases o <;> first | rfl | cases h

/-- What the entry's record says. -/
def Rec (e : PE) (x : En) (recs recs' : Recs) : Prop := (recs' = recs ∧ x.seg = [] ∧ x.c' = x.c) ∨ recs' = (e.i, x.c, x.seg) :: recs

theorem stepPE_run (hc : GoodCall call) (ops : List Oper) (e : PE) (hcls : e.cls = cls e.o.op env) (recs recs' : Recs) (tm tm' : T Value) {s s' : HS}
    (h : stepPE ops e env call recs tm s = some ((tm', recs'), s')) : ∃ v x, x.e = e ∧ x.c = s.c ∧ x.c' = s'.c ∧ x.c ≤ x.c' ∧ StepE env call ops x tm s.h v s'.h ∧ tm' = putT e.o.dst v tm ∧ Rec e x recs recs' ∧
      (isQ e.cls = true → ∀ b, x.blk = some b → ∀ r ∈ recs, e.m.testBit r.1 = false → b < r.2.1 ∧ b ∉ r.2.2) := by
  have hw : isQ e.cls = false → runW e.i recs (stepOp ops e.o env call tm) s = some ((tm', recs'), s') → ∃ v x, x.e = e ∧ x.c = s.c ∧ x.c' = s'.c ∧ x.c ≤ x.c' ∧ StepE env call ops x tm s.h v s'.h ∧ tm' = putT e.o.dst v tm ∧ Rec e x recs recs' ∧
      (isQ e.cls = true → ∀ b, x.blk = some b → ∀ r ∈ recs, e.m.testBit r.1 = false → b < r.2.1 ∧ b ∉ r.2.2) := by
    intro hq h
    unfold runW recK at h
    cases hs : stepOp ops e.o env call tm { h := s.h, c := s.c, log := [] } with
    | none => rw [hs] at h; cases h
    | some r =>
      obtain ⟨tm1, s1⟩ := r
      rw [hs] at h
      injection h with h; injection h with e1 e2; injection e1 with e1 e3
      subst e1; subst e2; subst e3
      rw [stepOp_eq] at hs
      obtain ⟨v, s2, h1, h2⟩ := bind_some hs
      injection h2 with h2; injection h2 with e1 e2; subst e1; subst e2
      refine ⟨v, ⟨e, s.c, s2.c, s2.log, none⟩, rfl, rfl, rfl, (good_stepV hc ops e.o tm _ _ _ h1).mono, ⟨h1, fun _ h3 => ?_⟩, rfl, .inr rfl, fun h3 => by rw [hq] at h3; cases h3⟩
      simp only at h3; rw [hq] at h3; cases h3
  have hqt : ∀ (hq : isQ e.cls = true) (hb : wantedG ops tm e.o.guard = true → ∀ b, readsAt e.o.op tm = some b → clear? b e.m recs = true), mapM (fun tm => (tm, recs)) (stepOp ops e.o env call tm) s = some ((tm', recs'), s') →
      ∃ v x, x.e = e ∧ x.c = s.c ∧ x.c' = s'.c ∧ x.c ≤ x.c' ∧ StepE env call ops x tm s.h v s'.h ∧ tm' = putT e.o.dst v tm ∧ Rec e x recs recs' ∧
      (isQ e.cls = true → ∀ b, x.blk = some b → ∀ r ∈ recs, e.m.testBit r.1 = false → b < r.2.1 ∧ b ∉ r.2.2) := by
    intro hq hb h
    unfold mapM at h
    obtain ⟨tm1, s1, h1, h2⟩ := bind_some h
    injection h2 with h2; injection h2 with e1 e2; injection e1 with e1 e3
    subst e1; subst e2; subst e3
    obtain ⟨e1, v, e2, e3⟩ := quiet_step ops e hcls hq tm h1
    subst e1
    cases hg : wantedG ops tm e.o.guard with
    | true =>
      refine ⟨v, ⟨e, s1.c, s1.c, [], readsAt e.o.op tm⟩, rfl, rfl, rfl, Nat.le_refl _, ⟨e3, fun _ _ => rfl⟩, e2, .inl ⟨rfl, rfl, rfl⟩, fun _ b hb' => ?_⟩
      exact clear_spec b e.m recs (hb hg b hb')
    | false =>
      refine ⟨v, ⟨e, s1.c, s1.c, [], none⟩, rfl, rfl, rfl, Nat.le_refl _, ⟨e3, fun h _ => ?_⟩, e2, .inl ⟨rfl, rfl, rfl⟩, fun _ b hb' => by cases hb'⟩
      simp only at h; rw [hg] at h; cases h
  unfold stepPE at h
  cases hcl : e.cls with
  | writer => rw [hcl] at h; exact hcl ▸ hw (by rw [hcl]; rfl) h
  | alloc => rw [hcl] at h; exact hcl ▸ hw (by rw [hcl]; rfl) h
  | pure =>
    rw [hcl] at h
    refine hcl ▸ hqt (by rw [hcl]; rfl) (fun _ b hb => ?_) h
    rw [reads_pure e.o.op tm (by rw [← hcls, hcl])] at hb; cases hb
  | load =>
    rw [hcl] at h
    simp only at h
    cases hg : wantedG ops tm e.o.guard with
    | false =>
      rw [hg] at h
      exact hcl ▸ hqt (by rw [hcl]; rfl) (fun hg' => by rw [hg] at hg'; cases hg') h
    | true =>
      rw [hg] at h
      cases hl : loadOK e.o.op e.m tm recs with
      | false => simp only [hl] at h; cases h
      | true =>
        simp only [hl] at h
        refine hcl ▸ hqt (by rw [hcl]; rfl) (fun _ b hb => ?_) h
        unfold loadOK clearO at hl
        rw [hb] at hl; exact hl

/-- Of two entries, the first ahead of the second. -/
structure Pair (y x : En) : Prop where
  back : y.e.m.testBit x.e.i = false
  ne : y.e.i ≠ x.e.i
  le : y.c' ≤ x.c
  wr : isW x.e.cls = true → x.e.m.testBit y.e.i = true
  mem : isQ x.e.cls = true → ∀ b, x.blk = some b → x.e.m.testBit y.e.i = false → b ∉ y.seg ∧ (b < y.c ∨ y.c' ≤ b)

theorem plan_run (hc : GoodCall call) (ops : List Oper) (n : Nat) : ∀ (plan : List PE) (S : Nat → Prop) (pre : List En) (recs : Recs) (tm tm' : T Value) (s s' : HS),
    execPEs ops plan env call (tm, recs) s = some (tm', s') → OrdOK n S plan → (∀ e ∈ plan, e.cls = cls e.o.op env) →
    (∀ y ∈ pre, S y.e.i ∧ (∀ k, y.e.m.testBit k = true → S k) ∧ y.c' ≤ s.c ∧ ((y.seg = [] ∧ y.c' = y.c) ∨ (y.e.i, y.c, y.seg) ∈ recs)) → (∀ k, S k → k < n) → (∀ e ∈ plan, e.i < n) →
    ∃ L : List En, L.map (·.e) = plan ∧ RunE env call ops L tm s.h tm' s'.h ∧ s.c ≤ s'.c ∧ (∀ x ∈ L, s.c ≤ x.c ∧ x.c ≤ x.c' ∧ x.c' ≤ s'.c) ∧ (∀ y ∈ pre, ∀ x ∈ L, Pair y x) ∧ L.Pairwise Pair ∧ (∀ x ∈ L, x.e.m.testBit x.e.i = false ∧ ∀ k, x.e.m.testBit k = true → k < n) ∧ (∀ k, k < n → S k ∨ ∃ x ∈ L, x.e.i = k)
  | [], S, pre, recs, tm, tm', s, s', h, ho, _, _, _, _ => by
    rw [execPEs_nil] at h
    injection h with h; injection h with e1 e2; subst e1; subst e2
    exact ⟨[], rfl, ⟨EqT.refl _, EqT.refl _⟩, Nat.le_refl _, (fun _ h => by cases h), (fun _ _ _ h => by cases h), List.Pairwise.nil, (fun _ h => by cases h), fun k hk => .inl (ho k hk)⟩
  | e :: plan, S, pre, recs, tm, tm', s, s', h, ho, hcl, hp, hS, hlt => by
    rw [execPEs_cons] at h
    obtain ⟨⟨tm1, recs1⟩, s1, h1, h2⟩ := bind_some h
    obtain ⟨o1, o2, o3, o4⟩ := ho
    obtain ⟨v, x, x1, x2, x3, x4, x5, x6, x7, x8⟩ := stepPE_run hc ops e (hcl e List.mem_cons_self) recs recs1 tm tm1 h1
    subst x6
    have hpx : ∀ y ∈ pre, Pair y x := fun y hy => by
      obtain ⟨p1, p2, p3, p4⟩ := hp y hy
      refine ⟨?_, ?_, by omega, fun hw => ?_, fun hq b hb hm => ?_⟩
      · cases hb : y.e.m.testBit x.e.i with
        | false => rfl
        | true => rw [x1] at hb; exact absurd (p2 _ hb) o1
      · intro he; rw [x1] at he; exact o1 (he ▸ p1)
      · rw [x1] at hw ⊢; exact o3 hw _ p1
      · rw [x1] at hq hm
        rcases p4 with ⟨q1, q2⟩ | q
        · rw [q1, q2]
          exact ⟨(by simp), (by omega)⟩
        · obtain ⟨r1, r2⟩ := x8 hq b hb _ q hm
          exact ⟨r2, .inl r1⟩
    obtain ⟨L, l1, l2, l3, l4, l5, l6, l7, l8⟩ := plan_run hc ops n plan (fun k => S k ∨ k = e.i) (x :: pre) recs1 (putT e.o.dst v tm) tm' s1 s' h2 o4 (fun e' he' => hcl e' (List.mem_cons_of_mem _ he')) (fun y hy => by
      rcases List.mem_cons.1 hy with hy | hy
      · subst hy
        rw [x1]
        refine ⟨.inr rfl, fun k hk => .inl (o2 k hk), by omega, ?_⟩
        rcases x7 with ⟨q1, q2, q3⟩ | q
        · exact .inl ⟨q2, q3⟩
        · rw [q]; exact .inr List.mem_cons_self
      · obtain ⟨p1, p2, p3, p4⟩ := hp y hy
        refine ⟨.inl p1, fun k hk => .inl (p2 k hk), by omega, ?_⟩
        rcases p4 with q | q
        · exact .inl q
        · rcases x7 with ⟨q1, q2, q3⟩ | q'
          · rw [q1]; exact .inr q
          · rw [q']; exact .inr (List.mem_cons_of_mem _ q)) (fun k hk => hk.elim (hS k) (fun e1 => e1 ▸ hlt e List.mem_cons_self)) (fun e' he' => hlt e' (List.mem_cons_of_mem _ he'))
    refine ⟨x :: L, by rw [List.map_cons, l1, x1], ⟨v, s1.h, by exact x5, by rw [x1]; exact l2⟩, by omega, fun z hz => ?_, fun y hy z hz => ?_, List.Pairwise.cons (fun z hz => l5 x List.mem_cons_self z hz) l6, fun z hz => ?_, fun k hk => ?_⟩
    · rcases List.mem_cons.1 hz with hz | hz
      · subst hz; omega
      · have := l4 z hz; omega
    · rcases List.mem_cons.1 hz with hz | hz
      · subst hz; exact hpx y hy
      · exact l5 y (List.mem_cons_of_mem _ hy) z hz
    · rcases List.mem_cons.1 hz with hz | hz
      · subst hz
        rw [x1]
        refine ⟨?_, fun k hk => hS k (o2 k hk)⟩
        cases hb : e.m.testBit e.i with
        | false => rfl
        | true => exact absurd (o2 _ hb) o1
      · exact l7 z hz
    · rcases l8 k hk with (h | h) | ⟨z, hz, h⟩
      · exact .inl h
      · exact .inr ⟨x, List.mem_cons_self, by rw [x1, h]⟩
      · exact .inr ⟨z, List.mem_cons_of_mem _ hz, h⟩

variable {P : Program}

/-- What is known of an entry. -/
structure EnOK (env : Env) (ops : Array Oper) (x : En) : Prop where
  at_ : ops.toList[x.e.i]? = some x.e.o
  m : x.e.m = maskOf (masks ops.toList []) x.e.i
  cls : x.e.cls = cls x.e.o.op env
  mem : x.e ∈ idxed env ops.toList (masks ops.toList []) 0
  irr : x.e.m.testBit x.e.i = false
  lt : ∀ k, x.e.m.testBit k = true → k < ops.size

theorem sim_any (hE : EnvOK P env) (hC : CallOK P call) {r : Option Nat} {n : Nat} {w0 : Base} (ops : Array Oper) (lo hi : Nat) (tm' : T Value) (h' : T AObj) {Q : Exit → Act → World → Prop}
    (hT : tmpsOK ops.toList (masks ops.toList []) (writersOf (idxed env ops.toList (masks ops.toList []) 0) .nil) (idxed env ops.toList (masks ops.toList []) 0) = true) :
    ∀ (fuel : Nat) (L : List En) (listed : Array Bool) (a : Act) (w : World) (φ : Map) (tm : T Value) (h : T AObj), L.length = fuel → (∀ x ∈ L, EnOK env ops x) → listed.size = ops.size →
      (∀ k, listed.getD k true = false ↔ ∃ x ∈ L, x.e.i = k) → (∀ k, listed.getD k false = true → ∀ j, (maskOf (masks ops.toList []) k).testBit j = true → listed.getD j false = true) →
      L.Pairwise Pair → RunE env call ops.toList L tm h tm' h' → Rel φ w0 w h → TR φ tm a.tmps → opsLt a.tmps.size ops.toList = true →
      (∀ x ∈ L, lo ≤ x.c ∧ x.c ≤ x.c' ∧ x.c' ≤ hi ∧ Fr φ x.c x.c' ∧ ∀ b, x.c ≤ b → b < x.c' → h.get b = none) →
      (∀ φ' a' w', Le φ φ' → Gr φ φ' lo hi → Rel φ' w0 w' h' → TR φ' tm' a'.tmps → a'.tmps.size = a.tmps.size → a'.defers = a.defers → Q .normal a' w') →
      wpAnyIn (FW r) n P .any ops Q fuel listed a w := by
  have hsplit : ∀ (listed : Array Bool), listed.size = ops.size → ∀ k, k < ops.size → listed.getD k true = listed.getD k false := by
    intro listed hs k hk
    simp [Array.getD, show k < listed.size by omega]
  have hgf : ∀ (listed : Array Bool), listed.size = ops.size → ∀ k, ops.size ≤ k → listed.getD k true = true ∧ listed.getD k false = false := by
    intro listed hs k hk
    simp [Array.getD, show ¬ k < listed.size by omega]
  intro fuel
  induction fuel with
  | zero =>
    intro L listed a w φ tm h hl _ _ hli _ _ hrun hrel htr _ _ hK
    have hL : L = [] := List.length_eq_zero_iff.1 hl
    subst hL
    refine ⟨?_, ?_⟩
    · apply List.eq_nil_iff_forall_not_mem.2
      intro j hj
      obtain ⟨h1, _⟩ := mem_ready.1 hj
      obtain ⟨x, hx, _⟩ := (hli j).1 h1
      cases hx
    · obtain ⟨e1, e2⟩ := hrun
      refine hK φ a w (Le.refl _) (Gr.refl _ _ _) (hrel.sub fun b o hb => by rw [e2 b]; exact hb) ⟨fun t v hv => htr.val t v (by rw [e1 t]; exact hv), fun t hv => htr.none t (by rw [e1 t]; exact hv)⟩ rfl rfl
  | succ fuel ih =>
    intro L listed a w φ tm h hl hok hsz hli hanc hpw hrun hrel htr hlt hfr hK
    have hin : ∀ x ∈ L, x.e.i < ops.size := fun x hx => by
      have := (List.getElem?_eq_some_iff.1 (hok x hx).at_).1
      simpa using this
    -- listed, told by the list
    have hlf : ∀ k, k < ops.size → (listed.getD k false = false ↔ ∃ x ∈ L, x.e.i = k) := fun k hk => by rw [← hsplit listed hsz k hk]; exact hli k
    refine ⟨fun hnil => ?_, fun i hi => ?_⟩
    · exfalso
      cases L with
      | nil => simp at hl
      | cons x L =>
        have hx := hok x List.mem_cons_self
        have : x.e.i ∈ Region.ready .any ops listed := mem_ready.2 ⟨(hli _).2 ⟨x, List.mem_cons_self, rfl⟩, x.e.o, by simpa using hx.at_, fun e he hb => by
          have hbit := (mask_edges ops.toList x.e.i x.e.o hx.at_).1 e (by simpa using he) hb
          rw [← hx.m] at hbit
          have hk := hx.lt _ hbit
          cases hlist : listed.getD e.on false with
          | true => rfl
          | false =>
            obtain ⟨y, hy, hyi⟩ := (hlf _ hk).1 hlist
            rcases List.mem_cons.1 hy with hy | hy
            · subst hy; rw [← hyi, hx.irr] at hbit; cases hbit
            · have := (List.rel_of_pairwise_cons hpw hy).back
              rw [hyi, hbit] at this; cases this⟩
        rw [hnil] at this; cases this
    · obtain ⟨hi0, o, hio, hedge⟩ := mem_ready.1 hi
      obtain ⟨x, hx, hxi⟩ := (hli i).1 hi0
      have hxo := hok x hx
      have hio' : ops.toList[i]? = some o := by simpa using hio
      have hoe : o = x.e.o := by have h1 := hxo.at_; rw [hxi, hio'] at h1; injection h1
      -- all that come ahead of x in every order are listed
      have hall : ∀ k, x.e.m.testBit k = true → listed.getD k false = true := fun k hk => by
        rw [hxo.m, hxi] at hk
        obtain ⟨e, he, hb, hor⟩ := (mask_edges ops.toList i o hio').2 k hk
        have hle := hedge e (by simpa using he) hb
        rcases hor with e1 | e1
        · rw [e1]; exact hle
        · exact hanc _ hle k e1
      have hno : ∀ y ∈ L, x.e.m.testBit y.e.i = false := fun y hy => by
        cases hb : x.e.m.testBit y.e.i with
        | false => rfl
        | true =>
          have h1 := hall _ hb
          have h2 := (hlf _ (hin y hy)).2 ⟨y, hy, rfl⟩
          rw [h1] at h2; cases h2
      obtain ⟨pre, post, hL⟩ := List.append_of_mem hx
      subst hL
      have hpx : ∀ y ∈ pre, Pair y x := fun y hy => (List.pairwise_append.1 hpw).2.2 y hy x List.mem_cons_self
      have hxp : ∀ y ∈ post, Pair x y := fun y hy => List.rel_of_pairwise_cons (List.pairwise_append.1 hpw).2.1 hy
      have hind : ∀ y ∈ pre, Indep ops.toList y x ∧ y.c' ≤ x.c := fun y hy => by
        have hym : y ∈ pre ++ x :: post := List.mem_append.2 (.inl hy)
        have hyo := hok y hym
        have p := hpx y hy
        have h1 : (maskOf (masks ops.toList []) x.e.i).testBit y.e.i = false := by rw [← hxo.m]; exact hno y hym
        have h2 : (maskOf (masks ops.toList []) y.e.i).testBit x.e.i = false := by rw [← hyo.m]; exact p.back
        refine ⟨⟨plan_apart env ops.toList hT hxo.mem hyo.mem p.ne h1 h2, fun d hd => (plan_apart env ops.toList hT hyo.mem hxo.mem (Ne.symm p.ne) h2 h1 d hd).1, ?_, fun hq b hb => p.mem hq b hb (hno y hym)⟩, p.le⟩
        cases hw : isW x.e.cls with
        | false => rfl
        | true => have := p.wr hw; rw [hno y hym] at this; cases this
      obtain ⟨f1, f2, f3, f4, f5⟩ := hfr x hx
      obtain ⟨v, h1, hs, hrest⟩ := bubble hC.good hxo.cls.symm pre hind f5 hrun
      have hstep : stepOp ops.toList o env call tm { h := h, c := x.c, log := [] } = some (putT x.e.o.dst v tm, { h := h1, c := x.c', log := x.seg }) := by
        rw [hoe, stepOp_eq]
        exact bind_of hs.1 rfl
      have hd : dstLt a.tmps.size o.dst = true := by
        unfold opsLt at hlt
        rw [List.all_eq_true] at hlt
        exact hlt o (List.mem_of_getElem? hio')
      refine sim_step hE hC ops i o hio hstep htr hd hrel f4 fun φ' a' w' g1 g2 g3 g4 g5 g6 => ?_
      obtain ⟨_, _, ya, _⟩ := hs.seg hC.good
      have g2' : ∀ b, (b < x.c ∨ x.c' ≤ b) → φ' b = φ b := g2
      have hdis : ∀ y, y ∈ pre ++ post → y.c' ≤ x.c ∨ x.c' ≤ y.c := fun y hy => (List.mem_append.1 hy).elim (fun h => .inl (hpx y h).le) (fun h => .inr (hxp y h).le)
      have hsub : ∀ y, y ∈ pre ++ post → y ∈ pre ++ x :: post := fun y hy => (List.mem_append.1 hy).elim (fun h => List.mem_append.2 (.inl h)) (fun h => List.mem_append.2 (.inr (List.mem_cons_of_mem _ h)))
      have hne : ∀ y, y ∈ pre ++ post → y.e.i ≠ x.e.i := fun y hy => (List.mem_append.1 hy).elim (fun h => (hpx y h).ne) (fun h => Ne.symm (hxp y h).ne)
      have hilt : i < ops.size := by rw [← hxi]; exact hin x hx
      refine ih (pre ++ post) _ a' w' φ' _ h1 (by simp at hl ⊢; omega) (fun y hy => hok y (hsub y hy)) (by simp [hsz]) (fun k => ?_) (fun k hk j hj => ?_) ?_ hrest g3 g4 (by rw [g5]; exact hlt) (fun y hy => ?_) (fun φ2 a2 w2 k1 k2 k3 k4 k5 k6 => ?_)
      · by_cases hk : i = k
        · subst hk
          constructor
          · intro h2; simp [Array.getD, hsz, hilt] at h2
          · rintro ⟨y, hy, hyi⟩; exact absurd (hyi.trans hxi.symm) (hne y hy)
        · rw [getD_set_ne true hk, hli]
          constructor
          · rintro ⟨y, hy, hyi⟩
            refine ⟨y, ?_, hyi⟩
            rcases List.mem_append.1 hy with h2 | h2
            · exact List.mem_append.2 (.inl h2)
            · rcases List.mem_cons.1 h2 with h2 | h2
              · subst h2; exact absurd (hxi.symm.trans hyi) hk
              · exact List.mem_append.2 (.inr h2)
          · rintro ⟨y, hy, hyi⟩; exact ⟨y, hsub y hy, hyi⟩
      · by_cases hki : i = k
        · subst hki
          exact getD_set_true (hall j (by rw [hxo.m, hxi]; exact hj))
        · rw [getD_set_ne false hki] at hk
          exact getD_set_true (hanc k hk j hj)
      · exact hpw.sublist (List.Sublist.append (List.Sublist.refl _) (List.sublist_cons_self _ _))
      · obtain ⟨y1, y2, y3, y4, y5⟩ := hfr y (hsub y hy)
        have hdy := hdis y hy
        exact ⟨y1, y2, y3, fun b b1 b2 => by rw [g2' b (by omega)]; exact y4 b b1 b2, fun b b1 b2 => ya b (y5 b b1 b2) (by omega)⟩
      · refine hK φ2 a2 w2 (Le.trans g1 k1) (fun b hb => ?_) k3 k4 (k5.trans g5) (k6.trans g6)
        rw [k2 b hb, g2' b (by omega)]

theorem Rel.absent {φ : Map} {w0 : Base} {w : World} {h : T AObj} (r : Rel φ w0 w h) {lo hi : Nat} (hf : Fr φ lo hi) (b : Nat) (h1 : lo ≤ b) (h2 : b < hi) : h.get b = none := by
  cases hb : h.get b with
  | none => rfl
  | some o =>
    have := hf b h1 h2
    cases o with
    | cells s e t ro cs => obtain ⟨p, hp, _⟩ := r.live _ _ _ _ _ _ hb; rw [this] at hp; cases hp
    | loop l => obtain ⟨p, L, hp, _⟩ := r.loop _ _ hb; rw [this] at hp; cases hp
    | map => obtain ⟨p, hp, _⟩ := r.maps _ _ hb rfl; rw [this] at hp; cases hp
    | iter => obtain ⟨p, hp, _⟩ := r.maps _ _ hb rfl; rw [this] at hp; cases hp

theorem masks_length (ops : List Oper) : (masks ops []).length = ops.length := by rw [(masks_spec ops []).1]; simp

theorem maskOf_ge (ops : List Oper) (k : Nat) (hk : ops.length ≤ k) : maskOf (masks ops []) k = 0 := by
  rw [maskOf_eq, List.getElem?_eq_none (by rw [masks_length]; exact hk)]; rfl

/-- A region whose order is open. -/
theorem sim_drawn (hE : EnvOK P env) (hC : CallOK P call) {r : Option Nat} {n : Nat} {w0 : Base} {w : World} (id : Nat) (ops : Array Oper) {tm tm' : T Value} {s s' : HS} {a : Act} {φ : Map} {Q : Exit → Act → World → Prop}
    (hok : okPlan env ops.toList (planOf env ops.toList) = true) (h : execPEs ops.toList (planOf env ops.toList) env call (tm, []) s = some (tm', s')) (hmix : P.follows .mixedOrders = true)
    (hrel : Rel φ w0 w s.h) (htr : TR φ tm a.tmps) (hlt : opsLt a.tmps.size ops.toList = true) (hfr : Fr φ s.c s'.c)
    (hK : ∀ φ' a' w', Le φ φ' → Gr φ φ' s.c s'.c → Rel φ' w0 w' s'.h → TR φ' tm' a'.tmps → a'.tmps.size = a.tmps.size → a'.defers = a.defers → Q .normal a' w') :
    (Code.region id ops true).wpIn (FW r) n P Q a w := by
  have habs := hrel.absent hfr
  refine wpIn_region_any hmix ?_
  unfold okPlan at hok
  rw [lenL_eq] at hok
  cases ho : okOrder (Nat.pred (Nat.pow 2 ops.toList.length)) (planOf env ops.toList) 0 with
  | false => rw [ho] at hok; cases hok
  | true =>
    rw [ho] at hok
    have hT : tmpsOK ops.toList (masks ops.toList []) (writersOf (idxed env ops.toList (masks ops.toList []) 0) .nil) (idxed env ops.toList (masks ops.toList []) 0) = true := hok
    have hord := okOrder_spec ops.toList.length (planOf env ops.toList) 0 (fun _ => False) (fun k => by simp) ho
    obtain ⟨L, l1, l2, l3, l4, _, l6, l7, l8⟩ := plan_run hC.good ops.toList ops.toList.length (planOf env ops.toList) (fun _ => False) [] [] tm tm' s s' h hord (fun e he => (plan_mem env _ e he).2.2.2) (fun y hy => by cases hy) (fun k hk => hk.elim)
      (fun e he => (List.getElem?_eq_some_iff.1 (plan_mem env _ e he).2.1).1)
    have hOK : ∀ x ∈ L, EnOK env ops x := fun x hx => by
      have hm : x.e ∈ planOf env ops.toList := by rw [← l1]; exact List.mem_map_of_mem hx
      obtain ⟨p1, p2, p3, p4⟩ := plan_mem env _ _ hm
      exact ⟨p2, p3, p4, p1, (l7 x hx).1, fun k hk => by simpa using (l7 x hx).2 k hk⟩
    have hin : ∀ x ∈ L, x.e.i < ops.size := fun x hx => by simpa using (List.getElem?_eq_some_iff.1 (hOK x hx).at_).1
    have hnd : L.length = ops.size := by
      -- as many entries as operations
      have h1 : (L.map fun x => x.e.i).Nodup := by
        rw [List.Nodup, List.pairwise_map]
        exact l6.imp fun p => p.ne
      have h2 : (L.map fun x => x.e.i).Perm (List.range ops.size) := by
        refine (List.perm_ext_iff_of_nodup h1 List.nodup_range).2 fun k => ?_
        rw [List.mem_map, List.mem_range]
        constructor
        · rintro ⟨x, hx, e⟩; rw [← e]; exact hin x hx
        · intro hk
          rcases l8 k (by simpa using hk) with h | ⟨x, hx, e⟩
          · exact h.elim
          · exact ⟨x, hx, e⟩
      have := h2.length_eq
      simpa using this
    refine sim_any hE hC ops s.c s'.c tm' s'.h hT ops.size L _ a _ φ tm s.h hnd hOK (by simp) (fun k => ?_) (fun k hk => ?_) l6 l2 hrel.drew htr hlt (fun x hx => ?_) hK
    · constructor
      · intro h1
        have hk : k < ops.size := by
          rcases Nat.lt_or_ge k ops.size with h2 | h2
          · exact h2
          · rw [Array.getD] at h1; simp [show ¬ k < ops.size by omega] at h1
        rcases l8 k (by simpa using hk) with h | h
        · exact h.elim
        · exact h
      · rintro ⟨x, hx, e⟩
        have hk := hin x hx
        rw [e] at hk
        simp [Array.getD, hk]
    · exfalso
      rw [Array.getD] at hk
      by_cases h1 : k < ops.size
      · simp [h1] at hk
      · simp [h1] at hk
    · obtain ⟨x1, x2, x3⟩ := l4 x hx
      exact ⟨x1, x2, x3, hfr.mono x1 x3, fun b b1 b2 => habs b (by omega) (by omega)⟩
end
end Go.Ax
