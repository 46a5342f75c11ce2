/- The abstract executor: its operations stand for the model's: append, copy, len and the others.
Conditions: none. -/
import Derived.Test.YtjlhclmgjdabfaaGreatAxS5
namespace Go.Ax
set_option linter.unusedVariables false
set_option linter.unusedSimpArgs false
set_option linter.unusedSectionVars false
open Go.RowKit (Below)

section
variable {P : Program} {w0 : Base} {φ : Map} {env : Env}

theorem lenV_run {v u : Value} (h : VR φ v u) {n : Nat} (hn : lenV v = some n) (w : World) : (Builtin.lenOf u).run P w = .ok n w := by
  unfold lenV at hn
  split at hn
  · injection hn with hn; subst hn
    cases h <;> rfl
  · injection hn with hn; subst hn
    rw [h.str_inv, lenL_eq]
    show Result.ok _ w = _
    congr 1
  · cases hn

/-- The block of an append without known capacity is used up. -/
theorem consume_some {b es : Nat} {o : AObj} {s s' : HS} {u : Unit} (h : consume b es o s = some (u, s')) (hg : s.h.get b = some o) :
    ∃ size es' tight ro cs, o = .cells size es' tight ro cs ∧ s'.c = s.c ∧ ((tight = true ∧ s' = s) ∨ (tight = false ∧ ro = false ∧ es' = es ∧ s'.h = s.h.del b)) := by
  unfold consume at h
  split at h
  · rename_i size es' tight ro cs
    refine ⟨size, es', tight, ro, cs, rfl, ?_⟩
    cases tight with
    | true => injection h with h; injection h with _ h; subst h; exact ⟨rfl, .inl ⟨rfl, rfl⟩⟩
    | false =>
      cases ro with
      | true => cases h
      | false =>
        cases he : Nat.beq es es' with
        | false => rw [he] at h; cases h
        | true =>
          rw [he] at h
          rw [T.nbeq, decide_eq_true_eq] at he
          have h' : delObj b s = some (u, s') := h
          unfold delObj at h'
          rw [hg] at h'
          injection h' with h'; injection h' with _ h'; subst h'
          exact ⟨rfl, .inr ⟨rfl, rfl, he.symm, rfl⟩⟩
  · cases h

theorem pushFresh {es n : Nat} {cells : List Value} {s s' : HS} {v : Value} (h : freshSlice es n cells s = some (v, s')) :
    v = .slice (some ⟨s.c, 0, none⟩) n n ∧ s'.c = s.c + 1 ∧ s'.h = s.h.set s.c (.cells cells.length es false false (T.ofList cells)) := by
  unfold freshSlice at h
  obtain ⟨b, s1, h1, h2⟩ := bind_some h
  unfold newCells at h1
  rw [newObj_eq] at h1
  injection h1 with h1; injection h1 with e1 e2; subst e1; subst e2
  injection h2 with h2; injection h2 with e1 e2; subst e1; subst e2
  exact ⟨rfl, rfl, by rw [lenL_eq]⟩

/-- A new row behind an append. -/
theorem append_new {w : World} {h : T AObj} (r : Rel φ w0 w h) {c : Nat} (hc : φ c = none) {e : TypeId} {te : TI} (hTe : TyOK P e te) {l : List Value} {us : Array Value} (hv : VRs φ l us.toList) {m cap : Nat}
    (hlen : l.length = m * te.size) (hcap : m ≤ cap) :
    ∃ φ', Le φ φ' ∧ Gr φ φ' c (c + 1) ∧ Rel φ' w0 (w.drew.alloc (.cells (us ++ ⟨repL te.zero (cap - m)⟩) e)) (h.set c (.cells l.length te.size false false (T.ofList l))) ∧
      VR φ' (.slice (some ⟨c, 0, none⟩) m m) (.slice (some ⟨w.heap.size, 0, none⟩) m cap) := by
  have key := r.drew.new hc te.size false l us.toList (repL te.zero (cap - m)) e hv (T.ofList l) (fun i _ => T.get_ofList l i)
  have earr : (⟨us.toList ++ repL te.zero (cap - m)⟩ : Array Value) = us ++ ⟨repL te.zero (cap - m)⟩ := by apply Array.ext'; simp
  rw [earr] at key
  have esz : (us.toList ++ repL te.zero (cap - m)).length = cap * te.size := by
    rw [List.length_append, repL_length, hTe.zsize, ← hv.length, hlen, ← Nat.add_mul]
    congr 1; omega
  rw [esz] at key
  refine ⟨_, put_le _ hc, put_gr _ _ _, key, ?_⟩
  exact sl_VR (x := ⟨w.heap.size, 0, none⟩) (put_self _ _ _) rfl rfl m m cap (Nat.le_refl _) hcap (.inr ⟨rfl, Nat.le_refl _⟩)

theorem firstN_bound {es l c : Nat} {b off : Nat} {s s' : HS} {old : List Value} (hl : l ≠ 0) (h : firstN es l (.slice (some ⟨b, off, none⟩) l c) s = some (old, s'))
    {size es' : Nat} {tight ro : Bool} {cs : T Value} (hg : s.h.get b = some (.cells size es' tight ro cs)) : off + l * es ≤ size ∧ ∀ i, i < l * es → old[i]? = cs.get (off + i) := by
  unfold firstN at h
  simp only at h
  have h0 : Nat.beq l 0 = false := by rw [T.nbeq, decide_eq_false_iff_not]; exact hl
  have h1 : Nat.ble l l = true := by rw [nble, decide_eq_true_eq]; exact Nat.le_refl _
  rw [h0, h1] at h
  have h' : M.bind (getObj b) (loadB off (Nat.mul l es)) s = some (old, s') := h
  obtain ⟨o, s1, k1, k2⟩ := bind_some h'
  unfold getObj at k1
  rw [hg] at k1
  injection k1 with k1; injection k1 with e1 e2; subst e1; subst e2
  unfold loadB at k2
  simp only at k2
  cases hle : Nat.ble (Nat.add off (Nat.mul l es)) size with
  | false => rw [hle] at k2; cases k2
  | true =>
    rw [hle] at k2
    rw [nble, decide_eq_true_eq] at hle
    cases hr : cs.read (Nat.mul l es) off with
    | none => rw [hr] at k2; cases k2
    | some l' =>
      rw [hr] at k2
      injection k2 with k2; injection k2 with e1 e2; subst e1
      exact ⟨hle, fun i hi => ((T.read_some _ _ _ _ hr).2 i hi).symm⟩

theorem sim_append (hE : EnvOK P env) {t0 t1 ty e : TypeId} {te : TI} (hU : ∀ w, (underlying t0).run P w = .ok (.slice e) w) (hte : env.ty.get e = some te) {d1 : TypeDesc} (hU1 : ∀ w, (underlying t1).run P w = .ok d1 w)
    (hd1 : isIntD d1 = false) {x y x' y' : Value} (hx : VR φ x x') (hy : VR φ y y') :
    Sim P w0 φ (appendV te.size te.bytes x y) (Builtin.append_ #[t0, t1] ty #[x', y']) RVal := by
  have hTe := hE.ty _ _ hte
  intro s w v s' hm r f
  unfold appendV at hm
  cases hn : lenV y with
  | none => rw [hn] at hm; cases hm
  | some n =>
    rw [hn] at hm
    have hm' : M.bind (firstN te.size n y) (fun new => appendN te.size te.bytes n new x) s = some (v, s') := hm
    obtain ⟨new, s1, h1, h2⟩ := bind_some hm'
    obtain ⟨e1, us, hus, happ⟩ := peek_firstN (P := P) hy r h1
    subst e1
    have hlen : ∀ w, (Builtin.lenOf y').run P w = .ok n w := lenV_run hy hn
    clear hm hm' h1
    unfold appendN at h2
    split at h2
    · rename_i base l cap
      cases hsz : Nat.ble (Nat.mul (Nat.add l n) (Nat.add te.bytes 1)) 1000000 with
      | false => rw [hsz] at h2; cases h2
      | true =>
        rw [hsz] at h2
        rw [nble, decide_eq_true_eq] at hsz
        have hsz' : (l + n) * (te.bytes + 1) ≤ 1000000 := hsz
        cases hall : allCells new with
        | false => rw [hall] at h2; cases h2
        | true =>
          rw [hall] at h2
          cases hnl : Nat.beq (lenL new) (Nat.mul n te.size) with
          | false => rw [hnl] at h2; cases h2
          | true =>
            rw [hnl] at h2
            rw [T.nbeq, decide_eq_true_eq, lenL_eq] at hnl
            have hnl' : new.length = n * te.size := hnl
            cases hn0 : Nat.beq n 0 with
            | true =>
              rw [hn0] at h2
              rw [T.nbeq, decide_eq_true_eq] at hn0
              subst hn0
              injection h2 with h2; injection h2 with e1 e2; subst e1; subst e2
              have hus0 : us.toList = [] := List.eq_nil_of_length_eq_zero (by rw [← hus.length, hnl']; simp)
              have fin : ∀ base' sc, l ≤ sc → x' = .slice base' l sc → (Builtin.append_ #[t0, t1] ty #[x', y']).run P w = .ok x' w := by
                intro base' sc hle hx'
                rw [hx', append_in hU hTe hU1 hd1 hlen happ (show l + 0 ≤ sc by omega), hus0]
                cases base' <;> rfl
              have : ∃ base' sc, l ≤ sc ∧ x' = .slice base' l sc := by
                cases hx with
                | nils _ _ h => exact ⟨none, cap, h, rfl⟩
                | sl b off _ _ c' p hp h0 h1 h2 => exact ⟨_, c', Nat.le_trans h0 h1, rfl⟩
                | sle a a' => exact ⟨_, 0, Nat.le_refl _, rfl⟩
              obtain ⟨base', sc, hle, hx'⟩ := this
              exact ⟨x', w, φ, fin base' sc hle hx', Le.refl _, Gr.refl _ _ _, r, hx⟩
            | false =>
              rw [hn0] at h2
              rw [T.nbeq, decide_eq_false_iff_not] at hn0
              unfold appendK at h2
              cases hx with
              | nils _ _ hlc =>
                simp only at h2
                cases hc0 : Nat.beq cap 0 with
                | false => rw [hc0] at h2; cases h2
                | true =>
                  rw [hc0] at h2
                  rw [T.nbeq, decide_eq_true_eq] at hc0
                  subst hc0
                  have hl0 : l = 0 := by omega
                  subst hl0
                  obtain ⟨q1, q2, q3⟩ := pushFresh h2
                  have hcn : φ s1.c = none := f _ (Nat.le_refl _) (by omega)
                  obtain ⟨k, hk, hrun⟩ := append_out (ty := ty) hU hTe hU1 hd1 (base := none) (sl := 0) (sc := 0) hlen (us := us) (old := #[]) happ (fun w' _ => rfl) (by omega) hsz'
                  rw [Nat.zero_add] at hk hrun
                  obtain ⟨φ', p1, p2, p3, p4⟩ := append_new r hcn hTe (l := new) (us := us) hus (m := n) (cap := k) hnl' hk
                  refine ⟨_, _, φ', hrun, p1, by rw [q2]; exact p2, ?_, ?_⟩
                  · rw [q3]
                    have : (#[] ++ us ++ (⟨repL te.zero (k - n)⟩ : Array Value)) = us ++ ⟨repL te.zero (k - n)⟩ := by simp
                    rw [this]; exact p3
                  · rw [q1]; exact p4
              | sl b off _ _ c' p hp h0 h1 h3 =>
                simp only at h2
                unfold appendTo at h2
                cases hle : Nat.ble (Nat.add l n) cap with
                | true =>
                  rw [hle] at h2
                  rw [nble, decide_eq_true_eq] at hle
                  have hle' : l + n ≤ cap := hle
                  have h2' : M.bind (storeN (addA ⟨b, off, none⟩ (Nat.mul l te.size)) new) (fun _ => force (Nat.add l n) fun m => ret (.slice (some ⟨b, off, none⟩) m cap)) s1 = some (v, s') := h2
                  obtain ⟨_, s2, k1, k2⟩ := bind_some h2'
                  rw [force_eq] at k2
                  injection k2 with k2; injection k2 with e1 e2; subst e1; subst e2
                  have hst := sim_storeN (P := P) (w0 := w0) (l := new) (us := us.toList) (VR.ptr b (off + l * te.size) p hp) hus s1 w () s2 k1 r f
                  obtain ⟨u, w', φ', c1, c2, c3, c4, _⟩ := hst
                  refine ⟨.slice (some ⟨p.blk, p.base + off, none⟩) (l + n) c', w', φ', ?_, c2, c3, c4, .sl b off (l + n) cap c' p (c2 _ _ hp) hle' h1 h3⟩
                  rw [append_in hU hTe hU1 hd1 hlen happ (show l + n ≤ c' by omega)]
                  simp only
                  rw [at_add p (l * te.size) p.blk off rfl]
                  have : (p.at (off + l * te.size)) = (⟨p.blk, p.base + (off + l * te.size), none⟩ : Addr) := rfl
                  rw [this, c1]; rfl
                | false =>
                  rw [hle] at h2
                  rw [nble, decide_eq_false_iff_not] at hle
                  have hle' : ¬ (l + n ≤ cap) := hle
                  -- the old cells
                  have hold : ∃ old s2, firstN te.size l (.slice (some ⟨b, off, none⟩) l cap) s1 = some (old, s1) ∧ old.length = l * te.size ∧
                      M.bind (getObj b) (fun o => M.bind (consume b te.size o) fun _ => freshSlice te.size (l + n) (old ++ new)) s1 = some (v, s') ∧ s2 = s1 := by
                    cases hc0 : Nat.beq cap 0 with
                    | true =>
                      rw [hc0] at h2
                      rw [T.nbeq, decide_eq_true_eq] at hc0
                      have hl0 : l = 0 := by omega
                      subst hl0
                      refine ⟨[], s1, rfl, by simp, ?_, rfl⟩
                      rw [Nat.zero_add, List.nil_append]
                      exact h2
                    | false =>
                      rw [hc0] at h2
                      have h2' : M.bind (firstN te.size l (.slice (some ⟨b, off, none⟩) l cap)) (fun old => M.bind (getObj b) fun o => M.bind (consume b te.size o) fun _ => force (Nat.add l n) fun m => freshSlice te.size m (appL old new)) s1 = some (v, s') := h2
                      obtain ⟨old, s2, k1, k2⟩ := bind_some h2'
                      have hpk := peek_firstN (P := P) (VR.sl b off l cap c' p hp h0 h1 h3) r k1
                      obtain ⟨e1, _⟩ := hpk
                      subst e1
                      refine ⟨old, s2, k1, ?_, ?_, rfl⟩
                      · unfold firstN at k1
                        simp only at k1
                        cases hl0 : Nat.beq l 0 with
                        | true =>
                          rw [hl0] at k1
                          injection k1 with k1; injection k1 with e1 _; subst e1
                          rw [T.nbeq, decide_eq_true_eq] at hl0; subst hl0; simp
                        | false =>
                          rw [hl0] at k1
                          cases hll : Nat.ble l l with
                          | false => rw [hll] at k1; cases k1
                          | true =>
                            rw [hll] at k1
                            exact (peek_loadN (P := P) (VR.ptr b off p hp) r k1).2.1
                      · simp only [force_eq, appL_eq] at k2
                        exact k2
                  obtain ⟨old, _, k1, k2, k3, _⟩ := hold
                  clear h2
                  obtain ⟨_, ous, hous, hof⟩ := peek_firstN (P := P) (VR.sl b off l cap c' p hp h0 h1 h3) r k1
                  obtain ⟨o, s2, g1, g2⟩ := bind_some k3
                  unfold getObj at g1
                  cases hg : s1.h.get b with
                  | none => rw [hg] at g1; cases g1
                  | some o' =>
                    rw [hg] at g1
                    injection g1 with g1; injection g1 with e1 e2; subst e1; subst e2
                    obtain ⟨_, s3, g3, g4⟩ := bind_some g2
                    obtain ⟨size, es', tight, ro, cs, ho, hc3, hcase⟩ := consume_some g3 hg
                    subst ho
                    obtain ⟨q1, q2, q3⟩ := pushFresh g4
                    have hcn : φ s1.c = none := f _ (Nat.le_refl _) (by omega)
                    obtain ⟨q, hq, hl⟩ := r.live _ _ _ _ _ _ hg
                    rw [hp] at hq; injection hq with hq; subst hq
                    have hlen2 : (old ++ new).length = (l + n) * te.size := by rw [List.length_append, k2, hnl', Nat.add_mul]
                    have hvs : VRs φ (old ++ new) (ous ++ us).toList := by rw [Array.toList_append]; exact hous.append hus
                    rw [hc3] at q1 q2 q3
                    by_cases hroom : l + n ≤ c'
                    · -- in place
                      rcases h3 with h3 | ⟨h3, h3'⟩
                      · omega
                      · have ht : tight = false := by rw [← hl.htight]; exact h3
                        rcases hcase with ⟨h4, _⟩ | ⟨_, h5, h6, h7⟩
                        · rw [ht] at h4; cases h4
                        · subst h5; subst h6; subst ht
                          have hes : p.es = te.size := hl.hes
                          rw [hes] at h3'
                          have hcl : (l + n) * te.size ≤ c' * te.size := Nat.mul_le_mul_right _ hroom
                          have hadd : (l + n) * te.size = l * te.size + n * te.size := Nat.add_mul _ _ _
                          -- the old part of the row under its new name
                          have hbound : l * te.size = 0 ∨ off + l * te.size ≤ size := by
                            by_cases hz : l = 0
                            · subst hz; exact .inl (Nat.zero_mul _)
                            · exact .inr (firstN_bound hz k1 hg).1
                          have hoget : ∀ i, i < l * te.size → (T.ofList old).get i = cs.get (off + i) := by
                            intro i hi
                            have hz : l ≠ 0 := fun e => by subst e; simp at hi
                            rw [T.get_ofList, (firstN_bound hz k1 hg).2 i hi]
                          have r1 := r.shrink hg hp off (l * te.size) hbound hcn (T.ofList old) hoget
                          have r2 := r1.store' (T.get_set_self _ _ _) (put_self _ _ _) (l * te.size) new us.toList (hus.mono (put_le _ hcn)) ((l + n) * te.size) (by simp only; omega) (by simp only; omega) (fun i hi => by omega)
                          have r4 := r2.recell (c := s1.c) (T.get_set_self _ _ _) (cs' := T.ofList (old ++ new)) (h' := s'.h) (fun i hi => by
                              rw [T.get_ofList, T.get_write]
                              by_cases hin : l * te.size ≤ i ∧ i < l * te.size + new.length
                              · rw [if_pos hin, List.getElem?_append_right (by omega), k2]
                              · rw [if_neg hin, List.getElem?_append_left (by omega), T.get_ofList]) (fun x => by
                              rw [q3, h7, hlen2]
                              by_cases hx : x = s1.c
                              · rw [if_pos hx, hx, T.get_set_self]
                              · rw [if_neg hx, T.get_set_ne _ _ hx, T.get_set_ne _ _ hx, T.get_set_ne _ _ hx])
                          have hrun := append_in (ty := ty) (base := some ⟨p.blk, p.base + off, none⟩) hU hTe hU1 hd1 hlen happ hroom
                          have hst : (storeCells ((⟨p.blk, p.base + off, none⟩ : Addr).add (l * te.size)) us.toList).run P w = .ok () (w.setCells p.blk (p.base + off + l * te.size) us.toList) := by
                            have hul := hus.length
                            rw [at_add p (l * te.size) p.blk off rfl]
                            have := run_storeCells_cells (P := P) p.blk (p.base + (off + l * te.size)) us.toList 0 w (fun j hj => ?_) (fun j hj => ?_) (allCells_one hus hall)
                            · rw [Nat.add_assoc]; exact this
                            · have := hl.cell (off + l * te.size + j) (by omega)
                              unfold Pl.at at this; rwa [← Nat.add_assoc] at this
                            · have := (hl.own rfl).2 (off + l * te.size + j) (by omega)
                              unfold Pl.at at this; rwa [← Nat.add_assoc] at this
                          simp only [hst, Result.andThen_ok] at hrun
                          refine ⟨_, _, _, hrun, put_le _ hcn, by rw [q2]; exact put_gr _ _ _, r4, ?_⟩
                          rw [q1]
                          have hv : VR (put φ s1.c ⟨p.blk, p.base + off, p.ext - off, te.size, false⟩) (.slice (some ⟨s1.c, 0, none⟩) (l + n) (l + n)) (.slice (some ⟨p.blk, (p.base + off) + 0, none⟩) (l + n) c') :=
                            .sl s1.c 0 (l + n) (l + n) c' ⟨p.blk, p.base + off, p.ext - off, te.size, false⟩ (put_self _ _ _) (Nat.le_refl _) hroom (.inr ⟨rfl, by simp only; omega⟩)
                          exact hv
                    · -- a new row
                      obtain ⟨k, hk, hrun⟩ := append_out (ty := ty) hU hTe hU1 hd1 (base := some ⟨p.blk, p.base + off, none⟩) (sl := l) (sc := c') hlen (us := us) (old := ous) happ hof hroom hsz'
                      have r3 : Rel φ w0 w s3.h := by
                        rcases hcase with ⟨_, h5⟩ | ⟨_, _, _, h5⟩
                        · rw [h5]; exact r
                        · rw [h5]; exact r.del b
                      obtain ⟨φ', p1, p2, p3, p4⟩ := append_new r3 hcn hTe (l := old ++ new) (us := ous ++ us) hvs (m := l + n) (cap := k) hlen2 hk
                      refine ⟨_, _, φ', hrun, p1, by rw [q2]; exact p2, ?_, ?_⟩
                      · rw [q3]; exact p3
                      · rw [q1]; exact p4
              | sle a a' =>
                simp only at h2
                unfold appendTo at h2
                obtain ⟨b, off, o⟩ := a
                have hle : Nat.ble (Nat.add 0 n) 0 = false := by rw [nble, decide_eq_false_iff_not]; show ¬ (0 + n ≤ 0); omega
                rw [hle] at h2
                cases o with
                | some _ => cases h2
                | none =>
                  have h2' : M.bind (getObj b) (fun o => M.bind (consume b te.size o) fun _ => freshSlice te.size n new) s1 = some (v, s') := h2
                  obtain ⟨o, s2, g1, g2⟩ := bind_some h2'
                  unfold getObj at g1
                  cases hg : s1.h.get b with
                  | none => rw [hg] at g1; cases g1
                  | some o' =>
                    rw [hg] at g1
                    injection g1 with g1; injection g1 with e1 e2; subst e1; subst e2
                    obtain ⟨_, s3, g3, g4⟩ := bind_some g2
                    obtain ⟨size, es', tight, ro, cs, ho, hc3, hcase⟩ := consume_some g3 hg
                    obtain ⟨q1, q2, q3⟩ := pushFresh g4
                    rw [hc3] at q1 q2 q3
                    have hcn : φ s1.c = none := f _ (Nat.le_refl _) (by omega)
                    have r3 : Rel φ w0 w s3.h := by
                      rcases hcase with ⟨_, h5⟩ | ⟨_, _, _, h5⟩
                      · rw [h5]; exact r
                      · rw [h5]; exact r.del b
                    obtain ⟨k, hk, hrun⟩ := append_out (ty := ty) hU hTe hU1 hd1 (base := some a') (sl := 0) (sc := 0) hlen (us := us) (old := #[]) happ (fun w' _ => by
                      show (loadCells a' (0 * te.size)).run P w' = _
                      rw [Nat.zero_mul]; rfl) (by omega) hsz'
                    rw [Nat.zero_add] at hk hrun
                    obtain ⟨φ', p1, p2, p3, p4⟩ := append_new r3 hcn hTe (l := new) (us := us) hus (m := n) (cap := k) hnl' hk
                    refine ⟨_, _, φ', hrun, p1, by rw [q2]; exact p2, ?_, ?_⟩
                    · rw [q3]
                      have : (#[] ++ us ++ (⟨repL te.zero (k - n)⟩ : Array Value)) = us ++ ⟨repL te.zero (k - n)⟩ := by simp
                      rw [this]; exact p3
                    · rw [q1]; exact p4
    · cases h2

end
end Go.Ax
