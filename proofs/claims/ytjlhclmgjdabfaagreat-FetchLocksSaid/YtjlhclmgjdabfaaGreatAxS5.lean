/- The abstract executor: its operations stand for the model's: the built-in functions.
Conditions: none. -/
import Derived.Test.YtjlhclmgjdabfaaGreatAxS4
namespace Go.Ax
set_option linter.unusedVariables false
set_option linter.unusedSimpArgs false
set_option linter.unusedSectionVars false
open Go.RowKit (Below)

section
variable {P : Program} {w0 : Base} {φ : Map} {env : Env}

/-- Two worlds read alike. -/
def SameCells (w w' : World) : Prop := ∀ a, w'.cell? a = w.cell? a

theorem peek_loadN {s s' : HS} {w : World} {b off : Nat} {x : Addr} {n : Nat} {l : List Value} (h : VR φ (.pointer (some ⟨b, off, none⟩)) (.pointer (some x))) (r : Rel φ w0 w s.h)
    (hm : loadN ⟨b, off, none⟩ n s = some (l, s')) : s' = s ∧ l.length = n ∧ ∃ us : Array Value, VRs φ l us.toList ∧ ∀ w', SameCells w w' → (loadCells x n).run P w' = .ok us w' := by
  cases h with
  | ptr _ _ p hp =>
    unfold loadN at hm
    obtain ⟨o, s1, h1, hk⟩ := bind_some hm
    unfold getObj at h1
    cases hg : s.h.get b with
    | none => rw [hg] at h1; cases h1
    | some o' =>
      rw [hg] at h1
      injection h1 with h1; injection h1 with e1 e2; subst e1; subst e2
      unfold loadB at hk
      split at hk
      · rename_i size es tight ro cs
        rw [nble] at hk
        by_cases hle : Nat.add off n ≤ size
        · rw [decide_eq_true hle] at hk
          cases hr : cs.read n off with
          | none => rw [hr] at hk; cases hk
          | some l' =>
            rw [hr] at hk
            injection hk with hk; injection hk with e1 e2; subst e1; subst e2
            obtain ⟨q, hq, hl⟩ := r.live _ _ _ _ _ _ hg
            rw [hp] at hq; injection hq with hq; subst hq
            obtain ⟨hlen, hget⟩ := T.read_some _ _ _ _ hr
            have hle' : off + n ≤ size := hle
            have hc : ∀ j, j < n → ∃ u, w.cell? ((⟨p.blk, p.base + off, none⟩ : Addr).add j) = some u ∧ ∃ v, l'[j]? = some v ∧ VR φ v u := by
              intro j hj
              obtain ⟨v, u, h1, h2, h3⟩ := hl.val (off + j) (by omega)
              rw [hget j hj] at h1
              exact ⟨u, by rw [at_add p j p.blk off rfl]; exact h2, v, h1, h3⟩
            refine ⟨rfl, hlen, ((List.range n).map fun j => (w.cell? ((⟨p.blk, p.base + off, none⟩ : Addr).add j)).getD undef).toArray, ?_, fun w' hw' => ?_⟩
            · refine VRs.of_get (by simp [hlen]) fun i v u hv hu => ?_
              have hi : i < n := by rw [← hlen]; exact (List.getElem?_eq_some_iff.1 hv).1
              obtain ⟨u', hu', v', hv', h3⟩ := hc i hi
              rw [hv] at hv'; injection hv' with hv'; subst hv'
              simp only [List.getElem?_map, List.getElem?_range hi, Option.map_some, Option.some.injEq] at hu
              rw [hu'] at hu; simp only [Option.getD_some] at hu; subst hu; exact h3
            · refine run_loadCells w' _ n _ fun j hj => ?_
              obtain ⟨u, hu, _⟩ := hc j hj
              rw [hw', hu]; rfl
        · rw [decide_eq_false hle] at hk; cases hk
      · cases hk

theorem sl_inv {b off l c : Nat} {o : Option Nat} {u : Value} (h : VR φ (.slice (some ⟨b, off, o⟩) l c) u) : (l = 0 ∧ c = 0 ∧ ∃ a', u = .slice (some a') 0 0) ∨
    (o = none ∧ ∃ p c', φ b = some p ∧ l ≤ c ∧ c ≤ c' ∧ (c' = c ∨ (p.tight = false ∧ off + c' * p.es ≤ p.ext)) ∧ u = .slice (some ⟨p.blk, p.base + off, none⟩) l c') := by
  cases h with
  | sl _ _ _ _ c' p hp h0 h1 h2 => exact .inr ⟨rfl, p, c', hp, h0, h1, h2, rfl⟩
  | sle _ a' => exact .inl ⟨rfl, rfl, a', rfl⟩

/-- The first elements of a slice, or of a string. -/
theorem peek_firstN {s s' : HS} {w : World} {es n : Nat} {v u : Value} {l : List Value} (h : VR φ v u) (r : Rel φ w0 w s.h) (hm : firstN es n v s = some (l, s')) :
    s' = s ∧ ∃ us : Array Value, VRs φ l us.toList ∧ ∀ w', SameCells w w' → (Builtin.firstCells es n u).run P w' = .ok us w' := by
  unfold firstN at hm
  split at hm
  · rename_i a c d
    obtain ⟨b, off, o⟩ := a
    cases h0 : Nat.beq n 0 with
    | true =>
      rw [h0] at hm
      rw [T.nbeq, decide_eq_true_eq] at h0
      subst h0
      injection hm with hm; injection hm with e1 e2; subst e1; subst e2
      refine ⟨rfl, #[], .nil, fun w' _ => ?_⟩
      rcases sl_inv h with ⟨_, _, a', rfl⟩ | ⟨_, p, c', _, _, _, _, rfl⟩
      · show (loadCells a' (0 * es)).run P w' = _
        rw [Nat.zero_mul]; rfl
      · show (loadCells _ (0 * es)).run P w' = _
        rw [Nat.zero_mul]; rfl
    | false =>
      rw [h0] at hm
      rw [T.nbeq, decide_eq_false_iff_not] at h0
      cases h1 : Nat.ble n c with
      | false => rw [h1] at hm; cases hm
      | true =>
        rw [h1] at hm
        rw [nble, decide_eq_true_eq] at h1
        rcases sl_inv h with ⟨e1, e2, a', rfl⟩ | ⟨rfl, p, c', hp, _, _, _, rfl⟩
        · omega
        · obtain ⟨e1, e2, us, h1, h2⟩ := peek_loadN (P := P) (VR.ptr b off p hp) r hm
          exact ⟨e1, us, h1, h2⟩
  · cases h with
    | nils _ _ _ =>
      injection hm with hm; injection hm with e1 e2; subst e1; subst e2
      exact ⟨rfl, #[], .nil, fun w' _ => rfl⟩
  · cases hm

theorem allCells_one {l us : List Value} (hv : VRs φ l us) (hall : allCells l = true) : ∀ u ∈ us, u.oneCell' = true := by
  rw [allCells_iff] at hall
  intro u hu
  obtain ⟨i, hi, hiu⟩ := List.getElem_of_mem hu
  have hil : i < l.length := by rw [hv.length]; exact hi
  obtain ⟨u', hu', hvr⟩ := hv.get (List.getElem?_eq_getElem hil)
  rw [List.getElem?_eq_getElem hi, hiu] at hu'; injection hu' with hu'; subst hu'
  exact oneCell_of hvr (hall _ (List.getElem_mem hil))

/-- What an append comes to where there is room. -/
theorem append_in {t0 t1 ty e : TypeId} {te : TI} (hU : ∀ w, (underlying t0).run P w = .ok (.slice e) w) (hTe : TyOK P e te) {d1 : TypeDesc} (hU1 : ∀ w, (underlying t1).run P w = .ok d1 w) (hd1 : isIntD d1 = false)
    {base : Option Addr} {sl sc : Nat} {y : Value} {n : Nat} (hn : ∀ w, (Builtin.lenOf y).run P w = .ok n w) {us : Array Value} {w : World}
    (happ : ∀ w', SameCells w w' → (Builtin.firstCells te.size n y).run P w' = .ok us w') (hroom : sl + n ≤ sc) :
    (Builtin.append_ #[t0, t1] ty #[.slice base sl sc, y]).run P w =
      (match base with | some a => (storeCells (a.add (sl * te.size)) us.toList).run P w | none => .ok () w).andThen fun _ w' => .ok (.slice base (sl + n) sc) w' := by
  unfold Builtin.append_
  simp only [List.getElem?_toArray, List.getElem?_cons_zero, List.getElem?_cons_succ, Sem.run_bind, hU, Result.andThen_ok, hTe.runS, hU1, Sem.run_pure]
  cases d1 with
  | int k => simp [isIntD] at hd1
  | _ =>
    simp only [Bool.false_eq_true, if_false, Sem.run_bind, hn, Result.andThen_ok, if_pos hroom, Bool.not_false, if_true, happ w (fun _ => rfl)]
    cases base with
    | none => rfl
    | some a => simp only [Sem.run_bind]; rfl

/-- The cells of n zero elements, as append writes them. -/
theorem zeroCells_eq {te : TI} {z : Value} (hz1 : z.cells.toList = te.zero) (n : Nat) : Builtin.zeroCells z.cells n = ⟨repL te.zero n⟩ := by
  have hzc : z.cells = ⟨te.zero⟩ := by rw [← hz1]
  unfold Builtin.zeroCells
  rw [hzc]
  exact zeros_eq te.zero n _ rfl

theorem nextcap_le (need old : Nat) (h : old < need) : Builtin.nextslicecap need old ≤ 2 * need + 4096 := by
  unfold Builtin.nextslicecap
  split
  · omega
  · split
    · omega
    · have key : ∀ r c, c ≤ need + (need + 768) / 4 → Builtin.growBy need r c ≤ need + (need + 768) / 4 := by
        intro r
        induction r with
        | zero => intro c hc; exact hc
        | succ r ih =>
          intro c hc
          unfold Builtin.growBy
          split
          · exact hc
          · exact ih _ (by omega)
      have := key 4 old (by omega)
      omega

/-- What an append comes to where there is none. -/
theorem append_out {t0 t1 ty e : TypeId} {te : TI} (hU : ∀ w, (underlying t0).run P w = .ok (.slice e) w) (hTe : TyOK P e te) {d1 : TypeDesc} (hU1 : ∀ w, (underlying t1).run P w = .ok d1 w) (hd1 : isIntD d1 = false)
    {base : Option Addr} {sl sc : Nat} {y : Value} {n : Nat} (hn : ∀ w, (Builtin.lenOf y).run P w = .ok n w) {us old : Array Value} {w : World}
    (happ : ∀ w', SameCells w w' → (Builtin.firstCells te.size n y).run P w' = .ok us w') (hold : ∀ w', SameCells w w' → (Builtin.firstCells te.size sl (.slice base sl sc)).run P w' = .ok old w')
    (hroom : ¬ (sl + n ≤ sc)) (hsz : (sl + n) * (te.bytes + 1) ≤ 1000000) :
    ∃ cap, sl + n ≤ cap ∧ (Builtin.append_ #[t0, t1] ty #[.slice base sl sc, y]).run P w =
      .ok (.slice (some ⟨w.heap.size, 0, none⟩) (sl + n) cap) (w.drew.alloc (.cells (old ++ us ++ ⟨repL te.zero (cap - (sl + n))⟩) e)) := by
  obtain ⟨i, hi, hi1, hi2⟩ := hTe.runI
  obtain ⟨z, hz, hz1, _⟩ := hTe.runZ
  have hneed : sl + n ≤ 1000000 := Nat.le_trans (Nat.le_mul_of_pos_right _ (Nat.succ_pos _)) hsz
  have hby : (sl + n) * te.bytes ≤ 1000000 := Nat.le_trans (Nat.mul_le_mul_left _ (Nat.le_succ _)) hsz
  have hnext : ¬ (Builtin.nextslicecap (sl + n) sc * i.bytes > 2 ^ 48) := by
    have h1 := nextcap_le (sl + n) sc (by omega)
    rw [hi2]
    have hb1 : te.bytes ≤ 1000000 := by
      have : 1 * te.bytes ≤ (sl + n) * te.bytes := Nat.mul_le_mul_right _ (by omega)
      omega
    have h2 : Builtin.nextslicecap (sl + n) sc * te.bytes ≤ (2 * (sl + n) + 4096) * te.bytes := Nat.mul_le_mul_right _ h1
    have h3 : (2 * (sl + n) + 4096) * te.bytes = 2 * ((sl + n) * te.bytes) + 4096 * te.bytes := by rw [Nat.add_mul, Nat.mul_assoc]
    omega
  have hbig : ¬ (((sl + n : Nat) : Int) > IntKind.i64.max ∧ (False ∨ i.bytes = 0)) := by
    intro ⟨h, _⟩
    have : IntKind.max .i64 = 9223372036854775807 := rfl
    rw [this] at h
    omega
  let cap := (Question.appendCap (sl + n) sc e).cut (w.tape w.drawn (Question.appendCap (sl + n) sc e))
  have hcap : sl + n ≤ cap := by show sl + n ≤ (sl + n) + _; omega
  refine ⟨cap, hcap, ?_⟩
  have hch : (choose (Question.appendCap (sl + n) sc e)).run P w = .ok cap w.drew := rfl
  have hask : ∀ b w, (askRoom b).run P w = .ok () w := by intro b w; unfold askRoom; split <;> rfl
  have hsame : SameCells w w.drew := fun _ => rfl
  have hzc := zeroCells_eq hz1 (cap - (sl + n))
  unfold Builtin.append_
  simp only [List.getElem?_toArray, List.getElem?_cons_zero, List.getElem?_cons_succ, Sem.run_bind, hU, Result.andThen_ok, hTe.runS, hU1, Sem.run_pure]
  cases d1 with
  | int k => simp [isIntD] at hd1
  | _ =>
    simp only [Bool.false_eq_true, if_false, Sem.run_bind, hn, Result.andThen_ok, if_neg hroom, Bool.not_false, if_true, hi, if_neg hbig, if_neg hnext, hch, hask, hold w.drew hsame, happ w.drew hsame, hz, hzc]
    rfl

end
end Go.Ax
