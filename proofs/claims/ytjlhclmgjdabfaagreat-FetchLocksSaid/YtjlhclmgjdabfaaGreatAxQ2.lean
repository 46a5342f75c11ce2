/- The abstract executor: regions whose order is open: the executor's order is one that the operations' edges allow.
Conditions: none. -/
import Derived.Test.YtjlhclmgjdabfaaGreatAxQ
namespace Go.Ax
set_option linter.unusedVariables false
set_option linter.unusedSimpArgs false
set_option linter.unusedSectionVars false
open Go.RowKit (Below)

theorem bit_eq (m i : Nat) : bit m i = m.testBit i := by
  unfold bit shrN
  rw [T.nbeq, Nat.testBit_eq_decide_div_mod_eq]; rfl

theorem edgeMask_bit (es : List Edge) (acc : List Nat) (k : Nat) : (edgeMask es acc).testBit k = true ↔ ∃ e ∈ es, Region.binds .any e = true ∧ (k = e.on ∨ ∃ m, acc[e.on]? = some m ∧ m.testBit k = true) := by
  induction es with
  | nil => unfold edgeMask; simp
  | cons e es ih =>
    unfold edgeMask
    have hp : ∀ n, (Nat.pow 2 n).testBit k = true ↔ k = n := by
      intro n
      show (2 ^ n).testBit k = true ↔ k = n
      rw [Nat.testBit_two_pow]; simp; exact eq_comm
    cases hb : Region.binds .any e with
    | false => simp only [ih, List.mem_cons]; constructor
               · rintro ⟨x, hx, h⟩; exact ⟨x, .inr hx, h⟩
               · rintro ⟨x, hx | hx, h⟩
                 · subst hx; rw [hb] at h; cases h.1
                 · exact ⟨x, hx, h⟩
    | true =>
      simp only [nthL_eq]
      cases hm : acc[e.on]? with
      | none =>
        show (Nat.lor _ _).testBit k = true ↔ _
        rw [show ∀ a b : Nat, Nat.lor a b = a ||| b from fun _ _ => rfl, Nat.testBit_or, Bool.or_eq_true, hp, ih]
        constructor
        · rintro (h | ⟨x, hx, h⟩)
          · exact ⟨e, by simp, hb, .inl h⟩
          · exact ⟨x, by simp [hx], h⟩
        · rintro ⟨x, hx, h1, h2⟩
          rcases List.mem_cons.1 hx with hx | hx
          · subst hx
            rcases h2 with h2 | ⟨m, h2, _⟩
            · exact .inl h2
            · rw [hm] at h2; cases h2
          · exact .inr ⟨x, hx, h1, h2⟩
      | some m =>
        show (Nat.lor (Nat.lor _ _) _).testBit k = true ↔ _
        rw [show ∀ a b : Nat, Nat.lor a b = a ||| b from fun _ _ => rfl, show ∀ a b : Nat, Nat.lor a b = a ||| b from fun _ _ => rfl, Nat.testBit_or, Nat.testBit_or, Bool.or_eq_true, Bool.or_eq_true, hp, ih]
        constructor
        · rintro ((h | h) | ⟨x, hx, h⟩)
          · exact ⟨e, by simp, hb, .inl h⟩
          · exact ⟨e, by simp, hb, .inr ⟨m, hm, h⟩⟩
          · exact ⟨x, by simp [hx], h⟩
        · rintro ⟨x, hx, h1, h2⟩
          rcases List.mem_cons.1 hx with hx | hx
          · subst hx
            rcases h2 with h2 | ⟨m', h2, h3⟩
            · exact .inl (.inl h2)
            · rw [hm] at h2; injection h2 with h2; subst h2; exact .inl (.inr h3)
          · exact .inr ⟨x, hx, h1, h2⟩

theorem masks_nil (acc : List Nat) : masks [] acc = acc := rfl
theorem masks_cons (o : Oper) (l : List Oper) (acc : List Nat) : masks (o :: l) acc = masks l (acc ++ [edgeMask o.after.toList acc]) := by
  conv => lhs; unfold masks
  rw [force_eq, appL_eq]

theorem masks_spec : ∀ (l : List Oper) (acc : List Nat), (masks l acc).length = acc.length + l.length ∧ (∀ i, i < acc.length → (masks l acc)[i]? = acc[i]?) ∧
    ∀ (i : Nat) o, l[i]? = some o → ∃ pre, pre.length = acc.length + i ∧ (∀ j, j < pre.length → (masks l acc)[j]? = pre[j]?) ∧ (masks l acc)[acc.length + i]? = some (edgeMask o.after.toList pre)
  | [], acc => ⟨by rw [masks_nil]; simp, fun i _ => by rw [masks_nil], fun i o h => by simp at h⟩
  | o :: l, acc => by
    rw [masks_cons]
    obtain ⟨h1, h2, h3⟩ := masks_spec l (acc ++ [edgeMask o.after.toList acc])
    refine ⟨by rw [h1]; simp; omega, fun i hi => ?_, fun i o' ho => ?_⟩
    · rw [h2 i (by simp; omega), List.getElem?_append_left hi]
    · cases i with
      | zero =>
        simp at ho; subst ho
        refine ⟨acc, rfl, fun j hj => by rw [h2 j (by simp; omega), List.getElem?_append_left hj], ?_⟩
        rw [h2 _ (by simp), List.getElem?_append_right (by omega)]; simp
      | succ i =>
        obtain ⟨pre, k1, k2, k3⟩ := h3 i o' (by simpa using ho)
        refine ⟨pre, by rw [k1]; simp; omega, k2, ?_⟩
        rw [← k3]; congr 1; simp; omega

theorem maskOf_eq (ms : List Nat) (i : Nat) : maskOf ms i = (ms[i]?).getD 0 := by unfold maskOf; rw [nthL_eq]; cases ms[i]? <;> rfl

/-- Of each operation's mask: its own edges, and what its edges' masks hold. -/
theorem mask_edges (ops : List Oper) (i : Nat) (o : Oper) (ho : ops[i]? = some o) :
    (∀ e ∈ o.after.toList, Region.binds .any e = true → (maskOf (masks ops []) i).testBit e.on = true) ∧
      ∀ k, (maskOf (masks ops []) i).testBit k = true → ∃ e ∈ o.after.toList, Region.binds .any e = true ∧ (k = e.on ∨ (maskOf (masks ops []) e.on).testBit k = true) := by
  obtain ⟨_, _, h3⟩ := masks_spec ops []
  obtain ⟨pre, k1, k2, k3⟩ := h3 i o ho
  simp only [List.length_nil, Nat.zero_add] at k1 k3
  have hm : maskOf (masks ops []) i = edgeMask o.after.toList pre := by rw [maskOf_eq, k3]; rfl
  rw [hm]
  refine ⟨fun e he hb => (edgeMask_bit _ _ _).2 ⟨e, he, hb, .inl rfl⟩, fun k hk => ?_⟩
  obtain ⟨e, he, hb, h⟩ := (edgeMask_bit _ _ _).1 hk
  refine ⟨e, he, hb, h.imp id fun ⟨m, h1, h2⟩ => ?_⟩
  have hlt : e.on < pre.length := (List.getElem?_eq_some_iff.1 h1).1
  rw [maskOf_eq, k2 _ hlt, h1]; exact h2

theorem idxed_mem (env : Env) : ∀ (l : List Oper) (ms : List Nat) (k : Nat) (e : PE), e ∈ idxed env l ms k → ∃ j, l[j]? = some e.o ∧ e.i = k + j ∧ ms[j]? = some e.m ∧ e.cls = cls e.o.op env
  | [], _, _, e, h => by unfold idxed at h; cases h
  | o :: l, [], k, e, h => by unfold idxed at h; cases h
  | o :: l, m :: ms, k, e, h => by
    unfold idxed at h
    rcases List.mem_cons.1 h with h | h
    · subst h; exact ⟨0, by simp, by simp, by simp, rfl⟩
    · obtain ⟨j, h1, h2, h3, h4⟩ := idxed_mem env l ms (k + 1) e h
      exact ⟨j + 1, by simpa using h1, by omega, by simpa using h3, h4⟩

theorem pickM_mem (m placed : Nat) : ∀ (l : List PE) (e : PE), e ∈ pickM m placed l → e ∈ l
  | [], e, h => by unfold pickM at h; exact h
  | x :: l, e, h => by
    unfold pickM at h
    split at h
    · split at h
      · exact List.mem_cons_of_mem _ (pickM_mem m placed l e h)
      · rcases List.mem_cons.1 h with h | h
        · subst h; exact List.mem_cons_self
        · exact List.mem_cons_of_mem _ (pickM_mem m placed l e h)
    · exact List.mem_cons_of_mem _ (pickM_mem m placed l e h)
theorem pickR_mem (placed : Nat) : ∀ (l : List PE) (e : PE), e ∈ pickR placed l → e ∈ l
  | [], e, h => by unfold pickR at h; exact h
  | x :: l, e, h => by
    unfold pickR at h
    split at h
    · exact List.mem_cons_of_mem _ (pickR_mem placed l e h)
    · rcases List.mem_cons.1 h with h | h
      · subst h; exact List.mem_cons_self
      · exact List.mem_cons_of_mem _ (pickR_mem placed l e h)
theorem order_mem (all : List PE) : ∀ (l : List PE) (placed : Nat) (e : PE), (∀ x ∈ l, x ∈ all) → e ∈ order all l placed → e ∈ all
  | [], placed, e, _, h => by unfold order at h; exact pickR_mem _ _ _ h
  | x :: l, placed, e, hl, h => by
    unfold order at h
    split at h
    · rw [appL_eq] at h
      rcases List.mem_append.1 h with h | h
      · exact pickM_mem _ _ _ _ h
      · rcases List.mem_cons.1 h with h | h
        · subst h; exact hl _ List.mem_cons_self
        · exact order_mem all l _ e (fun y hy => hl y (List.mem_cons_of_mem _ hy)) h
    · exact order_mem all l _ e (fun y hy => hl y (List.mem_cons_of_mem _ hy)) h

/-- What is known of an entry of the plan. -/
theorem plan_mem (env : Env) (ops : List Oper) (e : PE) (h : e ∈ planOf env ops) : e ∈ idxed env ops (masks ops []) 0 ∧ ops[e.i]? = some e.o ∧ e.m = maskOf (masks ops []) e.i ∧ e.cls = cls e.o.op env := by
  have hm : e ∈ idxed env ops (masks ops []) 0 := order_mem _ _ _ _ (fun _ h => h) h
  obtain ⟨j, h1, h2, h3, h4⟩ := idxed_mem env ops _ 0 e hm
  rw [Nat.zero_add] at h2; subst h2
  exact ⟨hm, h1, by rw [maskOf_eq, h3]; rfl, h4⟩

/-- The order, told without numbers. -/
def OrdOK (n : Nat) : (Nat → Prop) → List PE → Prop
  | S, [] => ∀ k, k < n → S k
  | S, e :: l => ¬ S e.i ∧ (∀ k, e.m.testBit k = true → S k) ∧ (isW e.cls = true → ∀ k, S k → e.m.testBit k = true) ∧ OrdOK n (fun k => S k ∨ k = e.i) l

theorem okOrder_spec (n : Nat) : ∀ (l : List PE) (placed : Nat) (S : Nat → Prop), (∀ k, placed.testBit k = true ↔ S k) → okOrder (Nat.pred (Nat.pow 2 n)) l placed = true → OrdOK n S l
  | [], placed, S, hS, h => by
    unfold okOrder at h
    rw [T.nbeq, decide_eq_true_eq] at h
    intro k hk
    rw [← hS, h]
    show (2 ^ n - 1).testBit k = true
    rw [Nat.testBit_two_pow_sub_one]; exact decide_eq_true hk
  | e :: l, placed, S, hS, h => by
    unfold okOrder at h
    rw [bit_eq] at h
    have hland : ∀ a b : Nat, Nat.beq (Nat.land a b) a = true → ∀ k, a.testBit k = true → b.testBit k = true := by
      intro a b hab k hk
      rw [T.nbeq, decide_eq_true_eq] at hab
      have : (a &&& b).testBit k = true := by rw [show a &&& b = a from hab]; exact hk
      rw [Nat.testBit_and, Bool.and_eq_true] at this; exact this.2
    have hnext : ∀ k, (Nat.lor placed (Nat.pow 2 e.i)).testBit k = true ↔ S k ∨ k = e.i := by
      intro k
      show (placed ||| 2 ^ e.i).testBit k = true ↔ _
      rw [Nat.testBit_or, Nat.testBit_two_pow, Bool.or_eq_true, decide_eq_true_eq, hS]
      exact ⟨fun h => h.imp id Eq.symm, fun h => h.imp id Eq.symm⟩
    cases h1 : placed.testBit e.i with
    | true => rw [h1] at h; cases h
    | false =>
      rw [h1] at h
      cases h2 : Nat.beq (Nat.land e.m placed) e.m with
      | false => rw [h2] at h; cases h
      | true =>
        rw [h2] at h
        refine ⟨(fun hs => by rw [← hS, h1] at hs; cases hs), fun k hk => (hS k).1 (hland _ _ h2 k hk), ?_⟩
        cases h3 : isW e.cls with
        | true =>
          rw [h3] at h
          cases h4 : Nat.beq (Nat.land placed e.m) placed with
          | false => rw [h4] at h; cases h
          | true =>
            rw [h4] at h
            exact ⟨fun _ k hk => hland _ _ h4 k ((hS k).2 hk), okOrder_spec n l _ _ hnext h⟩
        | false =>
          rw [h3] at h
          exact ⟨(fun h => by cases h), okOrder_spec n l _ _ hnext h⟩

/-! ### The temporaries -/

theorem get_addW (t i : Nat) (m : T (List Nat)) (u : Nat) : (addW t i m).get u = if u = t then some (i :: (m.get t).getD []) else m.get u := by
  unfold addW
  cases hg : m.get t with
  | none => simp only [T.get_set]; rfl
  | some l => simp only [T.get_set]; rfl

theorem writersOf_cons_some (e : PE) (l : List PE) (m : T (List Nat)) {d : Tmp} (h : e.o.dst = some d) : writersOf (e :: l) m = writersOf l (addW d e.i m) := by
  conv => lhs; unfold writersOf
  rw [h]
theorem writersOf_cons_none (e : PE) (l : List PE) (m : T (List Nat)) (h : e.o.dst = none) : writersOf (e :: l) m = writersOf l m := by
  conv => lhs; unfold writersOf
  rw [h]

theorem writersOf_mono : ∀ (l : List PE) (m : T (List Nat)) (t : Nat) (js : List Nat), m.get t = some js → ∃ js', (writersOf l m).get t = some js' ∧ ∀ j ∈ js, j ∈ js' := by
  intro l
  induction l with
  | nil => intro m t js h; exact ⟨js, h, fun _ h => h⟩
  | cons e l ih =>
    intro m t js h
    cases hd : e.o.dst with
    | none => rw [writersOf_cons_none _ _ _ hd]; exact ih m t js h
    | some d =>
      rw [writersOf_cons_some _ _ _ hd]
      by_cases ht : t = d
      · subst ht
        obtain ⟨js', h1, h2⟩ := ih (addW t e.i m) t (e.i :: js) (by rw [get_addW, if_pos rfl, h]; rfl)
        exact ⟨js', h1, fun j hj => h2 j (List.mem_cons_of_mem _ hj)⟩
      · exact ih (addW d e.i m) t js (by rw [get_addW, if_neg ht]; exact h)

theorem writersOf_mem (e : PE) (t : Nat) (ht : e.o.dst = some t) : ∀ (l : List PE) (m : T (List Nat)), e ∈ l → ∃ js, (writersOf l m).get t = some js ∧ e.i ∈ js := by
  intro l
  induction l with
  | nil => intro m he; cases he
  | cons x l ih =>
    intro m he
    rcases List.mem_cons.1 he with h | h
    · subst h
      rw [writersOf_cons_some _ _ _ ht]
      obtain ⟨js', h1, h2⟩ := writersOf_mono l (addW t e.i m) t (e.i :: (m.get t).getD []) (by rw [get_addW, if_pos rfl])
      exact ⟨js', h1, h2 _ List.mem_cons_self⟩
    · cases hd : x.o.dst with
      | none => rw [writersOf_cons_none _ _ _ hd]; exact ih m h
      | some d => rw [writersOf_cons_some _ _ _ hd]; exact ih _ h

theorem ordered_spec (ms : List Nat) (i : Nat) : ∀ (js : List Nat), ordered ms i js = true → ∀ j ∈ js, j = i ∨ (maskOf ms i).testBit j = true ∨ (maskOf ms j).testBit i = true
  | [], _, j, hj => by cases hj
  | x :: l, h, j, hj => by
    unfold ordered at h
    rw [T.nbeq, bit_eq, bit_eq] at h
    rcases List.mem_cons.1 hj with e | hj
    · subst e
      by_cases hi : i = j
      · exact .inl hi.symm
      · rw [decide_eq_false hi] at h
        cases h1 : (maskOf ms i).testBit j with
        | true => exact .inr (.inl rfl)
        | false =>
          rw [h1] at h
          cases h2 : (maskOf ms j).testBit i with
          | true => exact .inr (.inr rfl)
          | false => rw [h2] at h; cases h
    · refine ordered_spec ms i l ?_ j hj
      split at h
      · exact h
      · split at h
        · exact h
        · split at h
          · exact h
          · cases h

theorem slotsOK_spec (ms : List Nat) (wr : T (List Nat)) (i : Nat) : ∀ (ts : List Tmp), slotsOK ms wr i ts = true → ∀ t ∈ ts, ∀ js, wr.get t = some js → ordered ms i js = true
  | [], _, t, ht => by cases ht
  | x :: l, h, t, ht => by
    unfold slotsOK at h
    intro js hjs
    rcases List.mem_cons.1 ht with e | ht
    · subst e
      rw [hjs] at h
      simp only at h
      cases ho : ordered ms i js with
      | true => rfl
      | false => rw [ho] at h; cases h
    · refine slotsOK_spec ms wr i l ?_ t ht js hjs
      cases hx : wr.get x with
      | none => rw [hx] at h; exact h
      | some js' =>
        rw [hx] at h
        simp only at h
        cases ho : ordered ms i js' with
        | true => rw [ho] at h; exact h
        | false => rw [ho] at h; cases h

theorem tmpsOK_spec (ops : List Oper) (ms : List Nat) (wr : T (List Nat)) : ∀ (l : List PE), tmpsOK ops ms wr l = true → ∀ e ∈ l, slotsOK ms wr e.i (looks ops e.o) = true ∧ slotsOK ms wr e.i (optL e.o.dst) = true
  | [], _, e, he => by cases he
  | x :: l, h, e, he => by
    unfold tmpsOK at h
    cases h1 : slotsOK ms wr x.i (looks ops x.o) with
    | false => rw [h1] at h; cases h
    | true =>
      rw [h1] at h
      cases h2 : slotsOK ms wr x.i (optL x.o.dst) with
      | false => rw [h2] at h; cases h
      | true =>
        rw [h2] at h
        rcases List.mem_cons.1 he with h3 | h3
        · subst h3; exact ⟨h1, h2⟩
        · exact tmpsOK_spec ops ms wr l h e h3

/-- Two operations of the plan that no edge orders do not meet in the temporaries. -/
theorem plan_apart (env : Env) (ops : List Oper) (h : tmpsOK ops (masks ops []) (writersOf (idxed env ops (masks ops []) 0) .nil) (idxed env ops (masks ops []) 0) = true) {x y : PE}
    (hx : x ∈ idxed env ops (masks ops []) 0) (hy : y ∈ idxed env ops (masks ops []) 0) (hne : y.i ≠ x.i) (h1 : (maskOf (masks ops []) x.i).testBit y.i = false) (h2 : (maskOf (masks ops []) y.i).testBit x.i = false) :
    ∀ d, y.o.dst = some d → d ∉ looks ops x.o ∧ x.o.dst ≠ some d := by
  intro d hd
  obtain ⟨js, k1, k2⟩ := writersOf_mem y d hd _ .nil hy
  obtain ⟨s1, s2⟩ := tmpsOK_spec _ _ _ _ h x hx
  have key : ordered (masks ops []) x.i js = true → False := fun ho => by
    rcases ordered_spec _ _ _ ho y.i k2 with e | e | e
    · exact hne e
    · rw [h1] at e; cases e
    · rw [h2] at e; cases e
  refine ⟨fun hm => key (slotsOK_spec _ _ _ _ s1 d hm js k1), fun he => key (slotsOK_spec _ _ _ _ s2 d (by rw [he]; simp [optL]) js k1)⟩

end Go.Ax
