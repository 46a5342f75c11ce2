/- The abstract executor with a table of calls whose answers are proved elsewhere.
Conditions: none. -/
import Derived.Sort.Grow
import Derived.Sort.Row
import Derived.Test.YtjlhclmgjdabfaaGreatAxH
namespace Go.Ax
set_option linter.unusedVariables false
set_option linter.unusedSimpArgs false
set_option linter.unusedSectionVars false
open Go.RowKit (Below)

section
variable {P : Program} {env : Env}

theorem Rel.under {φ : Map} {w0 : Base} {w w' : World} {h : T AObj} (r : Rel φ w0 w h) (hb : Below w.heap.size w w') : Rel φ w0 w' h := by
  have hobj : ∀ k o, w.heap[k]? = some o → w'.heap[k]? = some o := fun k o hk => by rw [hb.block k (Array.getElem?_eq_some_iff.1 hk).1]; exact hk
  have hcell : ∀ a : Addr, a.block < w.heap.size → w'.cell? a = w.cell? a := fun a ha => by unfold World.cell?; rw [hb.block _ ha]
  have hfro : ∀ a : Addr, a.block < w.heap.size → w'.frozen? a = w.frozen? a := fun a ha => by unfold World.frozen?; rw [hb.block _ ha]
  refine ⟨r.below.trans (hb.mono r.below.size), fun b s e t ro cs hx => ?_, r.apart, fun b l hx => ?_, fun k o hk => ?_, r.objs, fun b o hx ho => (r.maps b o hx ho).imp fun p ⟨h1, h2, h3⟩ => ⟨h1, h2, MapOK.keep h3 fun k x hk _ => hobj _ _ hk⟩⟩
  · obtain ⟨p, h1, h2⟩ := r.live b s e t ro cs hx
    exact ⟨p, h1, h2.keep (Le.refl _) (fun i hi => hcell _ (h2.lt i hi)) (fun i hi => hfro _ (h2.lt i hi))⟩
  · obtain ⟨p, L, h1, h2, h3, h4⟩ := r.loop _ _ hx
    exact ⟨p, L, h1, h2, hobj _ _ h3, h4⟩
  · obtain ⟨h1, h2, h3⟩ := r.prot _ _ hk
    exact ⟨h1, h2, hobj _ _ h3⟩

/-! ### A sort of the library's -/

noncomputable def intsOf : List Value → Option (List Int)
  | [] => some []
  | .int k n :: l => match k with
    | .i64 => match intsOf l with
      | some zs => some (n :: zs)
      | none => none
    | _ => none
  | _ :: _ => none

theorem intsOf_eq : ∀ {l : List Value} {zs : List Int}, intsOf l = some zs → l = zs.map (Value.int .i64)
  | [], zs, h => by injection h with h; subst h; rfl
  | v :: l, zs, h => by
    cases v with
    | int k n =>
      cases k with
      | i64 =>
        have h' : (match intsOf l with | some zs => some (n :: zs) | none => none) = some zs := h
        cases hl : intsOf l with
        | none => rw [hl] at h'; cases h'
        | some zs' =>
          rw [hl] at h'; injection h' with h'; subst h'
          rw [intsOf_eq hl]; rfl
      | _ => cases h
    | _ => cases h

/-- A function of the library's that turns a row of integers in place: what the row holds behind it; how much of it is handed back. -/
structure RowOp where
  g : List Int → List Int
  k : Option (List Int → Nat)
noncomputable def rowRes (o : RowOp) (a : Addr) (zs : List Int) (c : Nat) : Value := match o.k with
  | none => .tuple ⟨[]⟩
  | some k => .slice (some a) (k zs) c

noncomputable def rowB (op : RowOp) (b off l c : Nat) : AObj → M Value
  | .cells size es tight ro cs => match ro with
    | true => M.fail
    | false => match Nat.beq es 1, Nat.ble (Nat.add off l) size with
      | true, true => M.withO (cs.read l off) fun vs => M.withO (intsOf vs) fun zs => M.bind (setObj b (.cells size es tight false (T.write ((op.g zs).map (Value.int .i64)) cs off))) fun _ => ret (rowRes op ⟨b, off, none⟩ zs c)
      | _, _ => M.fail
  | _ => M.fail
noncomputable def rowA (op : RowOp) : List Value → M Value
  | [.slice (some a) l c] => match a.spot, Nat.ble 1 l, Nat.ble l 1000000 with
    | none, true, true => M.bind (getObj a.block) (rowB op a.block a.off l c)
    | _, _, _ => M.fail
  | _ => M.fail

/-- The function does it. -/
structure RowFn (P : Program) (f : Nat) (o : RowOp) : Prop where
  len : ∀ zs, (o.g zs).length = zs.length
  le : ∀ k, o.k = some k → ∀ zs, k zs ≤ zs.length
  enter : ∀ us w, (callFunc f us).run P w = .ok (.enter f us) w
  calls : ∀ (blk off cap : Nat) (zs : List Int) (w : World), Go.Sort.Holds (Value.int .i64) w blk off zs.toArray → blk < w.heap.size → 1 ≤ zs.length → zs.length ≤ 1000000 → zs.length ≤ cap →
    Calls P f #[.slice (some ⟨blk, off, none⟩) zs.length cap] w fun e w' => e = .returned (rowRes o ⟨blk, off, none⟩ zs cap) ∧ ∃ n os, w' = Go.Sort.grow (Go.Sort.putRow (Value.int .i64) (Go.Sort.ahead w n) blk off (o.g zs).toArray) os

/-- What is known of a call: its answer; what it does to a row of integers. -/
inductive Ans where
  | val (v : Value)
  | row (o : RowOp)

/-- Calls on plain values whose answers are plain and that turn nothing that was there; calls that turn a row of integers. -/
abbrev Tbl := Nat → List Value → Option Ans

structure TblOK (P : Program) (tbl : Tbl) : Prop where
  args : ∀ f args v, tbl f args = some (.val v) → ∀ x ∈ args, constOK1 x = true
  out : ∀ f args v, tbl f args = some (.val v) → constOK1 v = true
  enter : ∀ f args v, tbl f args = some (.val v) → ∀ us w, (callFunc f us).run P w = .ok (.enter f us) w
  calls : ∀ f args v, tbl f args = some (.val v) → ∀ w, Calls P f ⟨args⟩ w fun e w' => e = .returned v ∧ Below w.heap.size w w'
  rows : ∀ f args o, tbl f args = some (.row o) → RowFn P f o

noncomputable def orCall (args : List Value) (o : Option Ans) (m : M Value) : M Value := match o with
  | some (.val v) => ret v
  | some (.row o) => rowA o args
  | none => m

noncomputable def callT (env : Env) (lf : Nat) (tbl : Tbl) (n : Nat) : CallH :=
  Nat.rec (motive := fun _ => CallH) (fun _ _ => M.fail) (fun _ r t args => match t with
    | .fn f => orCall args (tbl f args) (callK env lf r (.fn f) args)
    | .yield l => callK env lf r (.yield l) args) n

theorem good_rowA (op : RowOp) (args : List Value) : Good (rowA op args) := by
  unfold rowA
  split
  · split
    · refine good_bind (good_getObj _) fun o => ?_
      unfold rowB
      split
      · split
        · exact good_fail
        · split
          · exact good_withO fun _ => good_withO fun _ => good_bind (good_setObj _ _) fun _ => good_ret _
          · exact good_fail
      · exact good_fail
    · exact good_fail
  · exact good_fail

theorem setCells_putRow {w : World} {blk off : Nat} : ∀ (zs : List Int) (i : Nat) (d : Array Int), i + zs.length = d.size →
    (Go.Sort.putRow (Value.int .i64) w blk off d).setCells blk (off + i) (zs.map (Value.int .i64)) = Go.Sort.putRow (Value.int .i64) w blk off (d.toList.take i ++ zs).toArray
  | [], i, d, h => by
    have : d.toList.take i = d.toList := List.take_of_length_le (by simp at h ⊢; omega)
    rw [this]; simp [World.setCells]
  | z :: zs, i, d, h => by
    have hi : i < d.size := by simp at h; omega
    rw [List.map_cons, World.setCells, Go.Sort.putRow_set _ _ _ _ _ _ _ hi, Nat.add_assoc, setCells_putRow zs (i + 1) (d.setIfInBounds i z) (by simp at h ⊢; omega)]
    congr 1
    have : (d.setIfInBounds i z).toList.take (i + 1) = d.toList.take i ++ [z] := by
      rw [Array.toList_setIfInBounds, List.take_add_one]
      simp [hi, List.take_set_of_le]
    rw [this]
    simp

theorem Rel.ahead {φ : Map} {w0 : Base} {w : World} {h : T AObj} (r : Rel φ w0 w h) : ∀ n, Rel φ w0 (Go.Sort.ahead w n) h
  | 0 => r
  | n + 1 => by rw [← Go.Sort.ahead_drew]; exact (Rel.ahead r n).drew

theorem below_grow (w : World) (os : Array Obj) : Below w.heap.size w (Go.Sort.grow w os) :=
  ⟨rfl, rfl, rfl, by simp [Go.Sort.grow], fun i hi => by simp [Go.Sort.grow, Array.getElem?_append, hi]⟩

theorem plain_inv {φ : Map} {v u : Value} (h : constOK1 v = true) (hv : VR φ v u) : u = v := by
  cases hv with
  | bool => rfl
  | int => rfl
  | str => rfl
  | nilp => rfl
  | nils l c hl =>
    cases l with
    | zero => cases c with
      | zero => rfl
      | succ c => rfl
    | succ l => rfl
  | nilf => rfl
  | nili => rfl
  | nilm => rfl
  | _ => cases h

theorem plains_inv {φ : Map} : ∀ {l m : List Value}, (∀ x ∈ l, constOK1 x = true) → VRs φ l m → m = l
  | [], _, _, h => by cases h; rfl
  | v :: l, _, hp, h => by
    cases h with
    | cons h1 h2 => rw [plain_inv (hp v List.mem_cons_self) h1, plains_inv (fun x hx => hp x (List.mem_cons_of_mem _ hx)) h2]

theorem withO_inv {α β : Type} {o : Option α} {k : α → M β} {s s' : HS} {b : β} (h : M.withO o k s = some (b, s')) : ∃ a, o = some a ∧ k a s = some (b, s') := by
  cases o with
  | none => cases h
  | some a => exact ⟨a, rfl, h⟩

theorem rowA_inv {op : RowOp} {args : List Value} {s s' : HS} {v : Value} (h : rowA op args s = some (v, s')) :
    ∃ b off l c size ti cs zs, args = [.slice (some ⟨b, off, none⟩) l c] ∧ 1 ≤ l ∧ l ≤ 1000000 ∧ s.h.get b = some (.cells size 1 ti false cs) ∧ off + l ≤ size ∧ cs.read l off = some (zs.map (Value.int .i64)) ∧
      v = rowRes op ⟨b, off, none⟩ zs c ∧ s' = { h := s.h.set b (.cells size 1 ti false (T.write ((op.g zs).map (Value.int .i64)) cs off)), c := s.c, log := b :: s.log } := by
  match args, h with
  | [.slice (some ⟨b, off, none⟩) l c], h =>
    have h : (match (none : Option Nat), Nat.ble 1 l, Nat.ble l 1000000 with
      | none, true, true => M.bind (getObj b) (rowB op b off l c)
      | _, _, _ => M.fail) s = some (v, s') := h
    cases h1 : Nat.ble 1 l with
    | false => rw [h1] at h; cases h
    | true =>
    cases h2 : Nat.ble l 1000000 with
    | false => rw [h1, h2] at h; cases h
    | true =>
    rw [h1, h2] at h
    obtain ⟨o, s1, e1, e2⟩ := bind_some (show M.bind (getObj b) (rowB op b off l c) s = some (v, s') from h)
    obtain ⟨e3, hg⟩ := getObj_some e1
    subst e3
    cases o with
    | cells size es ti ro cs =>
      cases ro with
      | true => cases e2
      | false =>
      have e2 : (match Nat.beq es 1, Nat.ble (Nat.add off l) size with
        | true, true => M.withO (cs.read l off) fun vs => M.withO (intsOf vs) fun zs => M.bind (Ax.setObj b (.cells size es ti false (T.write ((op.g zs).map (Value.int .i64)) cs off))) fun _ => ret (rowRes op ⟨b, off, none⟩ zs c)
        | _, _ => M.fail) s1 = some (v, s') := e2
      cases h3 : Nat.beq es 1 with
      | false => rw [h3] at e2; cases e2
      | true =>
      cases h4 : Nat.ble (Nat.add off l) size with
      | false => rw [h3, h4] at e2; cases e2
      | true =>
      rw [h3, h4] at e2
      obtain ⟨vs, f1, e2⟩ := withO_inv (show M.withO (cs.read l off) _ s1 = some (v, s') from e2)
      obtain ⟨zs, f2, e2⟩ := withO_inv e2
      obtain ⟨u1, s2, f3, e2⟩ := bind_some e2
      injection e2 with e2; injection e2 with e4 e5; subst e4; subst e5
      have f4 := setObj_some f3
      have h3 := Nat.eq_of_beq_eq_true h3
      subst h3
      rw [intsOf_eq f2] at f1
      exact ⟨b, off, l, c, size, ti, cs, zs, rfl, Nat.le_of_ble_eq_true h1, Nat.le_of_ble_eq_true h2, hg, Nat.le_of_ble_eq_true h4, f1, rfl, f4⟩
    | loop => cases e2
    | map => cases e2
    | iter => cases e2
  | .slice (some ⟨_, _, some _⟩) _ _ :: l, h => cases l <;> cases h

theorem sim_row {f : Nat} {op : RowOp} (hS : RowFn P f op) (args us : List Value) (s s' : HS) (v : Value) (φ : Map) {w0 : Base} {w : World} (m : Nat) (r : Option Nat)
    (h : rowA op args s = some (v, s')) (hv : VRs φ args us) (hr : Rel φ w0 w s.h) :
    (∀ w, (callFunc f ⟨us⟩).run P w = .ok (.enter f ⟨us⟩) w) ∧ CallsIn (FW r) m P f ⟨us⟩ w (CallPost w0 φ s.c s'.c v s'.h) := by
  refine ⟨fun w => hS.enter _ w, ?_⟩
  obtain ⟨b, off, l, c, size, ti, cs, zs, rfl, h1, h2, hg, h4, f1, rfl, rfl⟩ := rowA_inv h
  obtain ⟨g1, g2⟩ := T.read_some cs l off _ f1
  rw [List.length_map] at g1
  obtain ⟨p, hp, hl⟩ := hr.live _ _ _ _ _ _ hg
  have hsz := hl.hsize
  have hext : 0 < p.ext := by omega
  have hcell : ∀ j, j < zs.length → w.cell? ⟨p.blk, p.base + off + j, none⟩ = some (.int .i64 (zs.getD j 0)) := fun j hj => by
    obtain ⟨v, u, k1, k2, k3⟩ := hl.val (off + j) (by omega)
    rw [g2 j (by omega), List.getElem?_map, List.getElem?_eq_getElem hj] at k1
    injection k1 with k1
    rw [← k1] at k3
    cases k3
    have : p.at (off + j) = ⟨p.blk, p.base + off + j, none⟩ := by unfold Pl.at; rw [Nat.add_assoc]
    rw [← this, k2, List.getD_eq_getElem?_getD, List.getElem?_eq_getElem hj]; rfl
  have hfro : ∀ j, j < zs.length → w.frozen? ⟨p.blk, p.base + off + j, none⟩ = false := fun j hj => by
    have := (hl.own rfl).2 (off + j) (by omega)
    unfold Pl.at at this
    rwa [← Nat.add_assoc] at this
  have hH : Go.Sort.Holds (Value.int .i64) w p.blk (p.base + off) zs.toArray := fun j hj => by
    have hj : j < zs.length := by simpa using hj
    refine ⟨?_, hfro j hj⟩
    rw [hcell j hj]
    simp [List.getD_eq_getElem?_getD, hj]
  cases hv with
  | cons hv1 hv2 =>
  cases hv2
  cases hv1 with
  | sle => omega
  | sl _ _ _ _ c' q hq k0 k1 k2 =>
  rw [hp] at hq; injection hq with hq; subst hq
  have hc := callsIn_wide (n := m).2 (hS.calls p.blk (p.base + off) c' zs w hH (hl.lt 0 hext) (by omega) (by omega) (by omega))
  show CallsIn (FW none) m P f ⟨_⟩ w _
  rw [FW_none, ← g1]
  refine hc.mono fun e w' he => ?_
  obtain ⟨e1, n, os, e2⟩ := he
  have hst := hr.store hg hp off ((op.g zs).map (Value.int .i64)) ((op.g zs).map (Value.int .i64)) (VRs.plain fun v hv => by obtain ⟨z, _, rfl⟩ := List.mem_map.1 hv; rfl) (by rw [List.length_map, hS.len]; omega)
  have hsc := setCells_putRow (w := w) (blk := p.blk) (off := p.base + off) (op.g zs) 0 zs.toArray (by rw [hS.len]; simp)
  rw [Go.Sort.putRow_self _ _ _ _ _ hH, Nat.add_zero, List.take_zero, List.nil_append] at hsc
  rw [hsc] at hst
  have hah := hst.ahead n
  refine ⟨_, φ, e1, Le.refl _, Gr.refl _ _ _, ?_, ?vr⟩
  case vr =>
    cases hk : op.k with
    | none => unfold rowRes; rw [hk]; exact .tuple [] [] .nil
    | some k =>
      unfold rowRes; rw [hk]
      exact .sl _ _ _ _ _ _ hp (by have := hS.le k hk zs; omega) k1 k2
  rw [e2, Go.Sort.putRow_ahead]
  exact hah.under (below_grow _ _)

theorem callT_ok (hE : EnvOK P env) (hp : EnvPlain env) (lf : Nat) {tbl : Tbl} (hT : TblOK P tbl) : ∀ n, CallOK P (callT env lf tbl n)
  | 0 => ⟨fun t args => good_fail, (fun f args s v s' w0 w φ us n r h => by cases h), (fun l args s v s' w0 w φ us n r p h => by cases h)⟩
  | n + 1 => by
    have ih := callT_ok hE hp lf hT n
    refine ⟨fun t args => ?_, fun f args s v s' w0 w φ us m r h hv hr hf => ?_, fun l args s v s' w0 w φ us m r p h hp' hv hr hf => sim_yield hE ih lf l args us s s' v φ p h hp' hv hr hf⟩
    · cases t with
      | fn f =>
        show Good (orCall args (tbl f args) (callK env lf (callT env lf tbl n) (.fn f) args))
        cases tbl f args with
        | some v => cases v with
          | val v => exact good_ret v
          | row o => exact good_rowA o args
        | none =>
          show Good (callK env lf (callT env lf tbl n) (.fn f) args)
          exact good_callK env lf ih.good _ _
      | yield l =>
        show Good (callK env lf (callT env lf tbl n) (.yield l) args)
        exact good_callK env lf ih.good _ _
    · have h' : orCall args (tbl f args) (callK env lf (callT env lf tbl n) (.fn f) args) s = some (v, s') := h
      cases ht : tbl f args with
      | none =>
        rw [ht] at h'
        exact sim_fn hE hp ih lf f args us s s' v φ h' hv hr hf
      | some y => cases y with
       | row o => rw [ht] at h'; exact sim_row (hT.rows f args o ht) args us s s' v φ _ _ h' hv hr
       | val x =>
        rw [ht] at h'
        injection h' with h'; injection h' with e1 e2; subst e1; subst e2
        have e3 := plains_inv (hT.args f args x ht) hv
        subst e3
        refine ⟨fun w => hT.enter f _ x ht _ w, ?_⟩
        have hc := callsIn_wide (n := m).2 (hT.calls f _ x ht w)
        show CallsIn (FW none) m P f ⟨us⟩ w _
        rw [FW_none]
        refine hc.mono fun e w' he => ?_
        obtain ⟨e1, e2⟩ := he
        exact ⟨x, φ, e1, Le.refl _, Gr.refl _ _ _, hr.under e2, VR.plain (hT.out f _ x ht)⟩

/-- A call, told by the executor with a table. -/
theorem open_runT (hE : EnvOK P env) (hp : EnvPlain env) {tbl : Tbl} (hT : TblOK P tbl) (lf n f : Nat) (args us : List Value) (s s' : HS) (b : Bool) (w : World) (φ : Map) (h : callT env lf tbl n (.fn f) args s = some (.bool b, s')) (hv : VRs φ args us) (hr : Rel φ (baseOf w) w s.h) (hf : Fr φ s.c s'.c) :
    Calls P f ⟨us⟩ w fun e w' => e = .returned (.bool b) ∧ Below w.heap.size w w' := by
  have := ((callT_ok hE hp lf hT n).fn f args s _ s' (baseOf w) w φ us 0 none h hv hr hf).2
  rw [FW_none] at this
  refine (callsIn_wide.1 this).mono fun e w' he => ?_
  obtain ⟨u, φ', e1, _, _, r1, v1⟩ := he
  exact ⟨by rw [e1, v1.bool_inv], r1.below⟩
end
end Go.Ax
