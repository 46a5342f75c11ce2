/- Slices that grow.
Conditions: none. -/
import Derived.Test.YtjlhclmgjdabfaaGreatAxM

namespace Go.Ax
set_option linter.unusedSectionVars false
set_option linter.unusedVariables false
set_option linter.unusedSimpArgs false

theorem Grow.del {s t : HS} (h : Grow s t) {b : Nat} (hb : s.c ≤ b) {u : HS} (hu : delObj b t = some ((), u)) : Grow s u := by
  unfold delObj at hu
  cases hg : t.h.get b with
  | none => rw [hg] at hu; cases hu
  | some o =>
    rw [hg] at hu
    injection hu with hu; injection hu with _ hu
    subst hu
    refine ⟨h.c, fun b' hb' => by show (t.h.del b).get b' = _; rw [T.get_del, if_neg (by omega)]; exact h.keep b' hb', ?_⟩
    obtain ⟨l, h1, h2⟩ := h.log
    refine ⟨b :: l, by show b :: t.log = _; rw [h1]; rfl, fun b' hb' => ?_⟩
    rcases List.mem_cons.1 hb' with e | e
    · rw [e]; exact hb
    · exact h2 b' e

/-- A slice that has been made by appending to nil: its block is its own. -/
structure Own (lo : Nat) (s : HS) (v : SV) (es : Nat) (L : List Value) : Prop where
  len : L.length = v.n * es
  cap : v.c = v.n
  at' : (v.a = none ∧ v.n = 0) ∨ ∃ b, v.a = some ⟨b, 0, none⟩ ∧ lo ≤ b ∧ b < s.c ∧ s.h.get b = some (bx es false false L) ∧ 0 < v.n

theorem Own.nil (lo : Nat) (s : HS) (es : Nat) : Own lo s ⟨none, 0, 0⟩ es [] := ⟨by simp, rfl, .inl ⟨rfl, rfl⟩⟩
theorem Own.hold {lo : Nat} {s : HS} {v : SV} {es : Nat} {L : List Value} (h : Own lo s v es L) : Hold s v es L := by
  refine ⟨h.len, ?_⟩
  rcases h.at' with ⟨_, h2⟩ | ⟨b, h1, h2, h3, h4, h5⟩
  · exact .inl h2
  · exact .inr ⟨b, 0, es, false, false, L, h1, h4, h3, by rw [h.len]; omega, by rw [List.drop_zero, ← h.len, List.take_length]⟩
theorem Own.keep {lo : Nat} {s t : HS} {v : SV} {es : Nat} {L : List Value} (h : Own lo s v es L) (hc : s.c ≤ t.c) (hk : ∀ b, v.a = some ⟨b, 0, none⟩ → t.h.get b = s.h.get b) : Own lo t v es L := by
  refine ⟨h.len, h.cap, ?_⟩
  rcases h.at' with h1 | ⟨b, h1, h2, h3, h4, h5⟩
  · exact .inl h1
  · exact .inr ⟨b, h1, h2, by omega, by rw [hk b h1]; exact h4, h5⟩
theorem Own.grow {lo : Nat} {s t : HS} {v : SV} {es : Nat} {L : List Value} (h : Own lo s v es L) (g : Grow s t) : Own lo t v es L := by
  refine ⟨h.len, h.cap, ?_⟩
  rcases h.at' with h1 | ⟨b, h1, h2, h3, h4, h5⟩
  · exact .inl h1
  · exact .inr ⟨b, h1, h2, by have := g.c; omega, by rw [g.keep b h3]; exact h4, h5⟩

theorem bsM_one {es : Nat} {zero : List Value} {v : Value} {s : HS} (hz : zero.length = es) (hv : (cellsOf v).length = es) (he : es ≤ 10000) :
    bsM es 1 zero [(0, v)] s = some (s.c, push s (bx es true false (cellsOf v))) := by
  unfold bsM
  rw [nble, decide_eq_true (show Nat.mul 1 es ≤ 10000 by show 1 * es ≤ _; omega)]
  show bsK es (Nat.mul 1 es) (match Nat.beq (lenL (cellsOf v)) es with
    | false => none
    | true => match Nat.ble (Nat.add (Nat.mul 0 es) es) (Nat.mul 1 es) with
      | false => none
      | true => some (T.write (cellsOf v) (T.ofList (repL zero 1)) (Nat.mul 0 es))) s = _
  rw [lenL_eq, hv, T.nbeq, decide_eq_true rfl, nble, decide_eq_true (show Nat.add (Nat.mul 0 es) es ≤ Nat.mul 1 es by show 0 * es + es ≤ 1 * es; omega)]
  have hr : repL zero 1 = zero := by rw [repL_succ, repL_zero, List.append_nil]
  show newObj (.cells (Nat.mul 1 es) es true false (T.write (cellsOf v) (T.ofList (repL zero 1)) (Nat.mul 0 es))) s = _
  rw [hr, show Nat.mul 0 es = 0 from Nat.zero_mul es, T.write_ofList _ _ _ (by omega), splice_all (by omega), newObj_run, show Nat.mul 1 es = (cellsOf v).length by rw [hv]; exact Nat.one_mul es]
  rfl

theorem bind_run {α β : Type} {m : M α} {k : α → M β} {s s1 : HS} {a : α} (h : m s = some (a, s1)) : M.bind m k s = k a s1 := bind_of h rfl

/-- Appending to such a slice. -/
theorem apM_own {lo es bytes : Nat} {s : HS} {v : SV} {L new C : List Value} {c n off es' : Nat} {ti ro : Bool} (h : Own lo s v es L) (hlo : lo ≤ s.c) (hn : 0 < n) (hc : s.h.get c = some (bx es' ti ro C)) (hnew : (C.drop off).take (n * es) = new)
    (hC : off + n * es ≤ C.length) (hes : 0 < es) (hcell : allCells new = true) (hsz : (v.n + n) * (bytes + 1) ≤ 1000000) (cp : Nat) :
    ∃ s', apM es bytes (.slice v.a v.n v.c) (.slice (some ⟨c, off, none⟩) n cp) s = some (⟨some ⟨s.c, 0, none⟩, v.n + n, v.n + n⟩, s') ∧ Own lo s' ⟨some ⟨s.c, 0, none⟩, v.n + n, v.n + n⟩ es (L ++ new) ∧
      s'.c = s.c + 1 ∧ (∀ b, b ≠ s.c → (∀ a, v.a = some a → b ≠ a.block) → s'.h.get b = s.h.get b) ∧ (∀ t, t.c ≤ lo → Grow t s → Grow t s') := by
  have hnl : new.length = n * es := by rw [← hnew, List.length_take, List.length_drop]; omega
  have hload : firstN es n (.slice (some ⟨c, off, none⟩) n cp) s = some (new, s) := by
    show (match Nat.beq n 0 with
      | true => M.pure []
      | false => match Nat.ble n n with
        | true => loadN ⟨c, off, none⟩ (Nat.mul n es)
        | false => M.fail) s = _
    rw [T.nbeq, decide_eq_false (by omega), nble, decide_eq_true (Nat.le_refl n)]
    show loadN ⟨c, off, none⟩ (n * es) s = _
    rw [loadN_run hc hC, hnew]
  have step : ∀ r, appendK es n new v.a v.n v.c s = r → M.bind (appendV es bytes (.slice v.a v.n v.c) (.slice (some ⟨c, off, none⟩) n cp)) svK s = M.bind (fun _ => r) svK s := by
    intro r hr
    have : appendV es bytes (.slice v.a v.n v.c) (.slice (some ⟨c, off, none⟩) n cp) s = r := by
      show M.bind (firstN es n (.slice (some ⟨c, off, none⟩) n cp)) (fun new => appendN es bytes n new (.slice v.a v.n v.c)) s = r
      rw [bind_run hload]
      show (match Nat.ble (Nat.mul (Nat.add v.n n) (Nat.add bytes 1)) 1000000 with
        | true => match allCells new with
          | true => match Nat.beq (lenL new) (Nat.mul n es) with
            | true => match Nat.beq n 0 with
              | true => ret (.slice v.a v.n v.c)
              | false => appendK es n new v.a v.n v.c
            | false => M.fail
          | false => M.fail
        | false => M.fail) s = r
      rw [nble, decide_eq_true (show Nat.mul (Nat.add v.n n) (Nat.add bytes 1) ≤ 1000000 from hsz), hcell, lenL_eq, T.nbeq, decide_eq_true (show new.length = Nat.mul n es from hnl), T.nbeq, decide_eq_false (by omega)]
      exact hr
    unfold M.bind
    rw [this]
  have hfresh : ∀ (m : Nat) (l : List Value) (t : HS), freshSlice es m l t = some (pSlice m m t.c, push t (bx es false false l)) := by
    intro m l t
    unfold freshSlice mapM
    rw [bind_run (newCells_run es (lenL l) false l t (lenL_eq l))]; rfl
  unfold apM
  rcases h.at' with ⟨h1, h2⟩ | ⟨b, h1, h2, h3, h4, h5⟩
  · have hL : L = [] := by have := h.len; rw [h2, Nat.zero_mul] at this; exact List.eq_nil_of_length_eq_zero this
    refine ⟨push s (bx es false false new), ?_, ⟨?_, rfl, .inr ⟨s.c, rfl, hlo, Nat.lt_succ_self _, ?_, by show 0 < v.n + n; omega⟩⟩, rfl, fun b hb _ => by rw [push_get, if_neg hb], fun t ht g => g.then_push _⟩
    · have hA : appendK es n new v.a v.n v.c s = some (pSlice n n s.c, push s (bx es false false new)) := by
        rw [h1, h.cap, h2]
        show (match Nat.beq 0 0 with
          | true => freshSlice es n new
          | false => M.fail) s = _
        exact hfresh n new s
      rw [step _ hA, h2, Nat.zero_add]; rfl
    · rw [hL, List.nil_append, hnl, h2, Nat.zero_add]
    · rw [hL, List.nil_append]; exact push_at _ _
  · have hload2 : firstN es v.n (.slice (some ⟨b, 0, none⟩) v.n v.c) s = some (L, s) := by
      show (match Nat.beq v.n 0 with
        | true => M.pure []
        | false => match Nat.ble v.n v.n with
          | true => loadN ⟨b, 0, none⟩ (Nat.mul v.n es)
          | false => M.fail) s = _
      rw [T.nbeq, decide_eq_false (by omega), nble, decide_eq_true (Nat.le_refl _)]
      show loadN ⟨b, 0, none⟩ (v.n * es) s = _
      rw [loadN_run h4 (by rw [h.len]; omega), ← h.len, List.drop_zero, List.take_length]
    have hget : getObj b s = some (bx es false false L, s) := by unfold getObj; rw [h4]; rfl
    have hdel : delObj b s = some ((), { h := s.h.del b, c := s.c, log := b :: s.log }) := by unfold delObj; rw [h4]; rfl
    have hcons : consume b es (bx es false false L) s = some ((), { h := s.h.del b, c := s.c, log := b :: s.log }) := by
      show (match Nat.beq es es with
        | true => delObj b
        | false => M.fail) s = _
      rw [T.nbeq, decide_eq_true rfl]; exact hdel
    refine ⟨push { h := s.h.del b, c := s.c, log := b :: s.log } (bx es false false (L ++ new)), ?_, ⟨?_, rfl, .inr ⟨s.c, rfl, hlo, Nat.lt_succ_self _, push_at _ _, by show 0 < v.n + n; omega⟩⟩, rfl, fun b' hb hb' => ?_, fun t ht g => (g.del (by omega) hdel).then_push _⟩
    · have hA : appendK es n new v.a v.n v.c s = some (pSlice (v.n + n) (v.n + n) s.c, push { h := s.h.del b, c := s.c, log := b :: s.log } (bx es false false (L ++ new))) := by
        rw [h1]
        show (match Nat.ble (Nat.add v.n n) v.c with
          | true => _
          | false => match Nat.beq v.c 0 with
            | true => _
            | false => M.bind (firstN es v.n (.slice (some ⟨b, 0, none⟩) v.n v.c)) fun old => M.bind (getObj b) fun o => M.bind (consume b es o) fun _ =>
                force (Nat.add v.n n) fun m => freshSlice es m (appL old new)) s = _
        rw [nble, decide_eq_false (show ¬ Nat.add v.n n ≤ v.c by rw [h.cap]; show ¬ v.n + n ≤ v.n; omega), T.nbeq, decide_eq_false (show v.c ≠ 0 by rw [h.cap]; omega)]
        show M.bind (firstN es v.n (.slice (some ⟨b, 0, none⟩) v.n v.c)) _ s = _
        rw [bind_run hload2, bind_run hget, bind_run hcons, force_eq, hfresh, appL_eq]; rfl
      rw [step _ hA]; rfl
    · rw [List.length_append, h.len, hnl, ← Nat.add_mul]
    · rw [push_get, if_neg hb]
      show (s.h.del b).get b' = _
      rw [T.get_del, if_neg (hb' _ h1)]

section
variable {R : Type} {s : HS} {Q : R → HS → Prop}
/-- One element is appended. -/
theorem WP.app1 {lo es bytes : Nat} {zero : List Value} {val : Value} {v : SV} {L : List Value} {k : Nat → SV → Tr R} (h : Own lo s v es L) (hlo : lo ≤ s.c) (hz : zero.length = es) (hv : (cellsOf val).length = es) (hes : 0 < es) (he : es ≤ 10000)
    (hcell : allCells (cellsOf val) = true) (hsz : (v.n + 1) * (bytes + 1) ≤ 1000000)
    (h' : ∀ c v' s', v'.n = v.n + 1 → Own lo s' v' es (L ++ cellsOf val) → s.c ≤ s'.c → (∀ b, b < s.c → (∀ a, v.a = some a → b ≠ a.block) → s'.h.get b = s.h.get b) → (∀ t, t.c ≤ lo → Grow t s → Grow t s') → WP (k c v') s' Q) :
    WP (.op (bsM es 1 zero [(0, val)]) fun c => .op (apM es bytes (.slice v.a v.n v.c) (.slice (some ⟨c, 0, none⟩) 1 1)) (k c)) s Q := by
  refine WP.op (bsM_one hz hv he) ?_
  obtain ⟨s', h1, h2, h3, h4, h5⟩ := apM_own (bytes := bytes) (h.grow (Grow.push s (bx es true false (cellsOf val)))) (n := 1) (off := 0) (by show lo ≤ s.c + 1; omega) (by omega) (push_at _ _) (by rw [List.drop_zero, Nat.one_mul, ← hv, List.take_length]) (by omega) hes hcell hsz 1
  refine WP.op h1 (h' _ _ s' rfl h2 (by rw [h3, push_c]; omega) (fun b hb hb' => ?_) fun t ht g => h5 t ht (g.then_push _))
  rw [h4 b (by rw [push_c]; omega) hb', push_get, if_neg (by omega)]
end
end Go.Ax
