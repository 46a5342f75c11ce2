/- Slices that hold lists in blocks of a kind; calls within an open order; parts of slices.
Conditions: none. -/
import Derived.Test.YtjlhclmgjdabfaaGreatAxM2

namespace Go.Ax
set_option linter.unusedSectionVars false
set_option linter.unusedVariables false
set_option linter.unusedSimpArgs false

/-- The slice's elements lie in a block of which A holds. -/
structure HoldA (A : Nat → Prop) (s : HS) (v : SV) (es : Nat) (L : List Value) : Prop where
  len : L.length = v.n * es
  at' : v.n = 0 ∨ ∃ b off es' ti ro C, v.a = some ⟨b, off, none⟩ ∧ A b ∧ s.h.get b = some (bx es' ti ro C) ∧ b < s.c ∧ off + v.n * es ≤ C.length ∧ (C.drop off).take (v.n * es) = L ∧ (ti = true ∨ es = es')

theorem HoldA.hold {A : Nat → Prop} {s : HS} {v : SV} {es : Nat} {L : List Value} (h : HoldA A s v es L) : Hold s v es L := by
  refine ⟨h.len, ?_⟩
  rcases h.at' with h | ⟨b, off, es', ti, ro, C, h1, _, h2, h3, h4, h5, _⟩
  · exact .inl h
  · exact .inr ⟨b, off, es', ti, ro, C, h1, h2, h3, h4, h5⟩
theorem HoldA.mono {A B : Nat → Prop} {s : HS} {v : SV} {es : Nat} {L : List Value} (h : HoldA A s v es L) (hA : ∀ b, b < s.c → A b → B b) : HoldA B s v es L := by
  refine ⟨h.len, ?_⟩
  rcases h.at' with h | ⟨b, off, es', ti, ro, C, h1, h0, h2, h3, h4, h5⟩
  · exact .inl h
  · exact .inr ⟨b, off, es', ti, ro, C, h1, hA b h3 h0, h2, h3, h4, h5⟩
theorem HoldA.keep {A : Nat → Prop} {s t : HS} {v : SV} {es : Nat} {L : List Value} (h : HoldA A s v es L) (hc : s.c ≤ t.c) (hk : ∀ b, b < s.c → A b → t.h.get b = s.h.get b) : HoldA A t v es L := by
  refine ⟨h.len, ?_⟩
  rcases h.at' with h | ⟨b, off, es', ti, ro, C, h1, h0, h2, h3, h4, h5⟩
  · exact .inl h
  · exact .inr ⟨b, off, es', ti, ro, C, h1, h0, by rw [hk b h3 h0]; exact h2, by omega, h4, h5⟩
theorem HoldA.grow {A : Nat → Prop} {s t : HS} {v : SV} {es : Nat} {L : List Value} (h : HoldA A s v es L) (g : Grow s t) : HoldA A t v es L := h.keep g.c fun b hb _ => g.keep b hb
theorem HoldA.upd {A : Nat → Prop} {s : HS} {v : SV} {es : Nat} {L : List Value} (h : HoldA A s v es L) {b : Nat} (hb : ¬ A b) (o : AObj) : HoldA A (upd s b o) v es L :=
  h.keep (Nat.le_refl _) fun b' _ hA => by rw [upd_get, if_neg (fun e => hb (by rw [← e]; exact hA))]
theorem HoldA.push {A : Nat → Prop} {s : HS} {v : SV} {es : Nat} {L : List Value} (h : HoldA A s v es L) (o : AObj) : HoldA A (push s o) v es L := h.grow (Grow.push s o)
theorem Own.holdA {lo : Nat} {s : HS} {v : SV} {es : Nat} {L : List Value} (h : Own lo s v es L) : HoldA (lo ≤ ·) s v es L := by
  refine ⟨h.len, ?_⟩
  rcases h.at' with ⟨_, h2⟩ | ⟨b, h1, h2, h3, h4, h5⟩
  · exact .inl h2
  · exact .inr ⟨b, 0, es, false, false, L, h1, h2, h4, h3, by rw [h.len]; omega, by rw [List.drop_zero, ← h.len, List.take_length], .inr rfl⟩
theorem Own.upd {lo : Nat} {s : HS} {v : SV} {es : Nat} {L : List Value} (h : Own lo s v es L) {b : Nat} (hb : b < lo) (o : AObj) : Own lo (upd s b o) v es L := by
  refine ⟨h.len, h.cap, ?_⟩
  rcases h.at' with h1 | ⟨b', h1, h2, h3, h4, h5⟩
  · exact .inl h1
  · exact .inr ⟨b', h1, h2, h3, by rw [upd_get, if_neg (by omega)]; exact h4, h5⟩

/-! ### Within an open order -/

noncomputable def noLog (s : HS) : HS := { h := s.h, c := s.c, log := [] }
noncomputable def addLog (s1 s : HS) : HS := { h := s1.h, c := s1.c, log := appL s1.log s.log }
theorem Grow.wrap {s s1 : HS} (g : Grow (noLog s) s1) : Grow s (addLog s1 s) ∧ ∀ b ∈ s1.log, s.c ≤ b := by
  obtain ⟨l, h1, h2⟩ := g.log
  have e : s1.log = l := by rw [h1]; exact List.append_nil l
  exact ⟨⟨g.c, g.keep, s1.log, appL_eq _ _, by rw [e]; exact h2⟩, by rw [e]; exact h2⟩
theorem Hold.noLog {s : HS} {v : SV} {es : Nat} {L : List Value} (h : Hold s v es L) : Hold (noLog s) v es L := ⟨h.len, h.at'⟩
theorem Hold.addLog {s s1 : HS} {v : SV} {es : Nat} {L : List Value} (h : Hold s1 v es L) : Hold (addLog s1 s) v es L := ⟨h.len, h.at'⟩
theorem HoldA.noLog {A : Nat → Prop} {s : HS} {v : SV} {es : Nat} {L : List Value} (h : HoldA A s v es L) : HoldA A (noLog s) v es L := ⟨h.len, h.at'⟩
theorem HoldA.addLog {A : Nat → Prop} {s s1 : HS} {v : SV} {es : Nat} {L : List Value} (h : HoldA A s1 v es L) : HoldA A (addLog s1 s) v es L := ⟨h.len, h.at'⟩

section
variable {R : Type} {s : HS} {Q : R → HS → Prop} {env : Env} {lf : Nat} {tbl : Tbl}

theorem WP.callW {d f n : Nat} {args : List Value} {sh : S3} {P : sh.Sem → HS → Prop} {k : (Nat × List Nat) → sh.Sem → List Nat → Tr R} (h : Runs env lf tbl d f args sh (noLog s) P) (hn : d ≤ n)
    (h' : ∀ x s1, P x s1 → WP (k (s.c, s.log) x s1.log) (addLog s1 s) Q) : WP (.op begW fun q => .op (ty3 sh (callT env lf tbl n (.fn f) args)) fun x => .op (endW q.2) (k q x)) s Q := by
  refine WP.op (m := begW) (b := (s.c, s.log)) (s1 := noLog s) rfl ?_
  refine WP.call h hn fun x s1 hx => ?_
  exact WP.op (m := endW s.log) (b := s1.log) (s1 := addLog s1 s) rfl (h' x s1 hx)
theorem WP.skipW {k : (Nat × List Nat) → List Nat → Tr R} (h' : WP (k (s.c, s.log) []) s Q) : WP (.op begW fun q => .op (endW q.2) (k q)) s Q := by
  refine WP.op (m := begW) (b := (s.c, s.log)) (s1 := noLog s) rfl ?_
  exact WP.op (m := endW s.log) (b := []) (s1 := s) rfl h'
theorem WP.stW {b off es : Nat} {ti : Bool} {L l : List Value} {k : (Nat × List Nat) → Unit → List Nat → Tr R} (hg : s.h.get b = some (bx es ti false L)) (hl : allCells l = true) (hb : off + l.length ≤ L.length)
    (h : WP (k (s.c, s.log) () [b]) (upd s b (bx es ti false (splice L off l))) Q) : WP (.op begW fun q => .op (stM l (some ⟨b, off, none⟩)) fun u => .op (endW q.2) (k q u)) s Q := by
  refine WP.op (m := begW) (b := (s.c, s.log)) (s1 := noLog s) rfl ?_
  refine WP.st (s := noLog s) hg hl hb ?_
  exact WP.op (m := endW s.log) (b := [b]) (s1 := upd s b (bx es ti false (splice L off l))) rfl h
end

theorem memN_false {b : Nat} {l : List Nat} (h : b ∉ l) : memN b l = false := by
  cases e : memN b l with
  | false => rfl
  | true => exact absurd ((memN_iff b l).1 e) h
theorem clrP_cons (m : Nat) (p : Option Addr) (i c : Nat) (seg : List Nat) (l : Recs) : clrP m p ((i, c, seg) :: l) = (match bit m i with
    | true => clrP m p l
    | false => match p with
      | none => clrP m p l
      | some a => match Nat.blt a.block c with
        | true => match memN a.block seg with
          | true => false
          | false => clrP m p l
        | false => false) := rfl
theorem clrP_ok {m : Nat} {p : Option Addr} : ∀ (recs : Recs), (∀ r ∈ recs, bit m r.1 = true ∨ ∀ a, p = some a → a.block < r.2.1 ∧ a.block ∉ r.2.2) → clrP m p recs = true := by
  intro recs
  induction recs with
  | nil => intro _; rfl
  | cons r l ih =>
    obtain ⟨i, c, seg⟩ := r
    intro h
    have ih := ih fun r hr => h r (List.mem_cons_of_mem _ hr)
    rw [clrP_cons]
    cases hb : bit m i with
    | true => exact ih
    | false =>
      cases p with
      | none => exact ih
      | some a =>
        rcases h _ List.mem_cons_self with h1 | h1
        · rw [hb] at h1; cases h1
        · obtain ⟨h2, h3⟩ := h1 a rfl
          simp only [nblt, decide_eq_true h2, memN_false h3]
          exact ih

/-! ### Parts of slices -/

theorem boundV_int (i most d : Nat) (k : IntKind) (h : i ≤ most) : boundV (some (.int k (i : Int))) d most = some i := by
  show (match Nat.ble i most with
    | true => some i
    | false => none) = some i
  rw [nble, decide_eq_true h]
theorem bounds_of (len cap l h : Nat) (lo hi : Option Value) (h1 : boundV hi len cap = some h) (h2 : boundV lo 0 h = some l) : bounds len cap lo hi none = some (l, h, cap) := by
  unfold bounds
  show (match boundV hi len cap with
    | none => none
    | some h => match boundV lo 0 h with
      | none => none
      | some l => some (l, h, cap)) = _
  rw [h1]
  show (match boundV lo 0 h with
      | none => none
      | some l => some (l, h, cap)) = _
  rw [h2]
theorem sliceRes_run (es : Nat) (a : Addr) (l h m : Nat) (s : HS) : sliceRes es a (some (l, h, m)) s = some (.slice (some (addA a (l * es))) (h - l) (m - l), s) := by
  show force l (fun l => force (Nat.sub h l) fun n => force (Nat.sub m l) fun c => ret (.slice (some (addA a (Nat.mul l es))) n c)) s = _
  rw [force_eq, force_eq, force_eq]; rfl
/-- A part of a slice. -/
theorem slS_run {s : HS} {v : SV} {es l h b off es' : Nat} {ti ro : Bool} {C : List Value} {lo hi : Option Value} (h1 : v.a = some ⟨b, off, none⟩) (h2 : s.h.get b = some (bx es' ti ro C)) (ht : ti = true ∨ es = es')
    (hh : boundV hi v.n v.c = some h) (hl : boundV lo 0 h = some l) : slS es v lo hi none s = some (⟨some ⟨b, off + l * es, none⟩, h - l, v.c - l⟩, s) := by
  unfold slS
  rw [h1]
  show M.bind (M.bind (getObj b) (sliceS es ⟨b, off, none⟩ (bounds v.n v.c lo hi none))) svK s = _
  rw [bounds_of v.n v.c l h lo hi hh hl]
  have hget : getObj b s = some (bx es' ti ro C, s) := by unfold getObj; rw [h2]; rfl
  have hs : sliceS es ⟨b, off, none⟩ (some (l, h, v.c)) (bx es' ti ro C) s = some (.slice (some (addA ⟨b, off, none⟩ (l * es))) (h - l) (v.c - l), s) := by
    show (match ti with
      | true => sliceRes es ⟨b, off, none⟩ (some (l, h, v.c))
      | false => match Nat.beq es es' with
        | true => sliceRes es ⟨b, off, none⟩ (some (l, h, v.c))
        | false => M.fail) s = _
    cases ti with
    | true => exact sliceRes_run _ _ _ _ _ _
    | false =>
      rcases ht with ht | ht
      · cases ht
      · subst ht
        rw [T.nbeq, decide_eq_true rfl]
        exact sliceRes_run _ _ _ _ _ _
  rw [bind_assoc', bind_run hget, bind_run hs]; rfl

/-- Appending nothing. -/
theorem apM_zero (es bytes cp : Nat) (v : SV) (p : Option Addr) (s : HS) (hsz : v.n * (bytes + 1) ≤ 1000000) : apM es bytes (.slice v.a v.n v.c) (.slice p 0 cp) s = some (v, s) := by
  have hf : firstN es 0 (.slice p 0 cp) s = some ([], s) := by cases p <;> rfl
  show M.bind (M.bind (firstN es 0 (.slice p 0 cp)) fun new => appendN es bytes 0 new (.slice v.a v.n v.c)) svK s = _
  rw [bind_assoc', bind_run hf]
  have : appendN es bytes 0 [] (.slice v.a v.n v.c) s = some (.slice v.a v.n v.c, s) := by
    show (match Nat.ble (Nat.mul (Nat.add v.n 0) (Nat.add bytes 1)) 1000000 with
      | true => match allCells [] with
        | true => match Nat.beq (lenL ([] : List Value)) (Nat.mul 0 es) with
          | true => match Nat.beq 0 0 with
            | true => ret (.slice v.a v.n v.c)
            | false => appendK es 0 [] v.a v.n v.c
          | false => M.fail
        | false => M.fail
      | false => M.fail) s = _
    rw [nble, decide_eq_true (show Nat.mul (Nat.add v.n 0) (Nat.add bytes 1) ≤ 1000000 from hsz), T.nbeq, decide_eq_true (show lenL ([] : List Value) = Nat.mul 0 es from (Nat.zero_mul es).symm)]
    rfl
  rw [bind_run this]; rfl

/-- Appending a list's cells to nil. -/
theorem WP.appNil {R : Type} {s : HS} {Q : R → HS → Prop} {A : Nat → Prop} {es bytes : Nat} {y : SV} {L : List Value} {k : SV → Tr R} (hy : HoldA A s y es L) (hes : 0 < es) (hcell : allCells L = true) (hsz : y.n * (bytes + 1) ≤ 1000000)
    (h' : ∀ v' s', v'.n = y.n → Own s.c s' v' es L → Grow s s' → WP (k v') s' Q) : WP (.op (apM es bytes (.slice none 0 0) (.slice y.a y.n y.c)) k) s Q := by
  by_cases hn : y.n = 0
  · have hL : L = [] := by have := hy.len; rw [hn, Nat.zero_mul] at this; exact List.eq_nil_of_length_eq_zero this
    refine WP.op (b := ⟨none, 0, 0⟩) (s1 := s) ?_ (h' _ _ hn.symm (by rw [hL]; exact Own.nil _ _ _) (Grow.refl s))
    rw [hn]; exact apM_zero es bytes y.c ⟨none, 0, 0⟩ y.a s (by simp)
  · rcases hy.at' with h | ⟨b, off, es', ti, ro, C, h1, _, h2, h3, h4, h5, _⟩
    · exact absurd h hn
    · obtain ⟨s', e1, e2, e3, e4, e5⟩ := apM_own (bytes := bytes) (Own.nil s.c s es) (n := y.n) (off := off) (Nat.le_refl _) (by omega) h2 h5 h4 hes hcell (by show (0 + y.n) * _ ≤ _; rw [Nat.zero_add]; exact hsz) y.c
      rw [h1]
      exact WP.op e1 (h' _ _ (Nat.zero_add _) e2 (e5 s (Nat.le_refl _) (Grow.refl s)))

/-- The rest of a slice. -/
theorem WP.part {R : Type} {s : HS} {Q : R → HS → Prop} {A : Nat → Prop} {es l : Nat} {v : SV} {L : List Value} {k : SV → Tr R} (h : HoldA A s v es L) (hl : l ≤ v.n) (hn : v.n ≠ 0)
    (h' : ∀ v', v'.n = v.n - l → HoldA A s v' es (L.drop (l * es)) → WP (k v') s Q) : WP (.op (slS es v (some (.int .i64 (l : Int))) none none) k) s Q := by
  rcases h.at' with h0 | ⟨b, off, es', ti, ro, C, e1, e2, e3, e4, e5, e6, e7⟩
  · exact absurd h0 hn
  · refine WP.op (slS_run e1 e3 e7 rfl (boundV_int l v.n 0 .i64 hl)) (h' _ rfl ⟨?_, .inr ⟨b, off + l * es, es', ti, ro, C, rfl, e2, e3, e4, ?_, ?_, e7⟩⟩)
    · show (L.drop (l * es)).length = (v.n - l) * es
      rw [List.length_drop, h.len, Nat.sub_mul]
    · show off + l * es + (v.n - l) * es ≤ C.length
      have : l * es + (v.n - l) * es = v.n * es := by rw [← Nat.add_mul]; congr 1; omega
      omega
    · show (C.drop (off + l * es)).take ((v.n - l) * es) = _
      rw [← e6, List.drop_take, List.drop_drop, Nat.sub_mul]
end Go.Ax
