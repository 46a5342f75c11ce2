/- Contract of the reference's Owners.
Conditions: none. -/
import Derived.Test.YtjlhclmgjdabfaaGreatFLa
namespace Go.Proofs.YtjlhclmgjdabfaaGreat
set_option linter.unusedSimpArgs false
set_option linter.unusedSectionVars false
open Go Go.Ax
set_option linter.unusedVariables false
set_option maxRecDepth 100000
def has (ps : List Pg) (j : Nat) : Bool := ps.any fun p => decide (p.head % 256 = j)
def fl (ps : List Pg) : List Value := (List.range 256).map fun j => .bool (has ps j)
theorem fl_len (ps : List Pg) : (fl ps).length = 256 := by unfold fl; rw [List.length_map, List.length_range]
theorem has_snoc (ps : List Pg) (p : Pg) (j : Nat) : has (ps ++ [p]) j = (has ps j || decide (p.head % 256 = j)) := by
  unfold has; rw [List.any_append]; simp
theorem fl_snoc (ps : List Pg) (p : Pg) : splice (fl ps) (p.head % 256) [.bool true] = fl (ps ++ [p]) := by
  have hk : p.head % 256 < 256 := Nat.mod_lt _ (by omega)
  rw [splice_eq _ _ _ (by rw [fl_len]; show _ + 1 ≤ 256; omega)]
  apply List.ext_getElem?
  intro j
  have key : ∀ qs : List Pg, (fl qs)[j]? = if j < 256 then some (.bool (has qs j)) else none := fun qs => by
    unfold fl
    rw [List.getElem?_map]
    by_cases h : j < 256
    · rw [if_pos h, List.getElem?_range h]; rfl
    · rw [if_neg h, List.getElem?_eq_none (by rw [List.length_range]; omega)]; rfl
  rw [key, has_snoc, List.append_assoc, List.getElem?_append]
  rw [List.length_take, fl_len]
  by_cases h1 : j < min (p.head % 256) 256
  · rw [if_pos h1, List.getElem?_take_of_lt (by omega), key, if_pos (by omega), if_pos (by omega), decide_eq_false (by omega), Bool.or_false]
  · rw [if_neg h1]
    by_cases h2 : j = p.head % 256
    · rw [show j - min (p.head % 256) 256 = 0 by omega, if_pos (by omega), decide_eq_true h2.symm, Bool.or_true]; rfl
    · rw [List.getElem?_append_right (by show 1 ≤ _; omega), List.getElem?_drop, show p.head % 256 + [Value.bool true].length + (j - min (p.head % 256) 256 - [Value.bool true].length) = j by show _ + 1 + (_ - 1) = j; omega, key, decide_eq_false (fun e => h2 e.symm), Bool.or_false]
def outs (ps : List Pg) (i : Nat) : List Int := ((List.range i).filter fun j => has ps (j + 1)).map fun (j : Nat) => (j : Int)
theorem outs_succ (ps : List Pg) (i : Nat) : outs ps (i + 1) = outs ps i ++ (if has ps (i + 1) then [(i : Int)] else []) := by
  unfold outs
  rw [List.range_succ, List.filter_append, List.map_append]
  congr 1
  by_cases h : has ps (i + 1) = true
  · rw [if_pos h]; simp [h]
  · rw [if_neg h]; simp [h]
theorem outs_len (ps : List Pg) (i : Nat) : (outs ps i).length ≤ i := by
  unfold outs; rw [List.length_map]
  exact Nat.le_trans (List.length_filter_le _ _) (by rw [List.length_range]; exact Nat.le_refl _)

theorem r27 (v : SV) (ps : List Pg) (s : HS) (hm : ps.length ≤ 40) (hhd : ∀ p ∈ ps, p.head < 18446744073709551616) (h : HoldP s v ps) :
    R16 100000 2 27 [slV v] (.v (.one .slice)) s fun (x : SV) s' => Grow s s' ∧ Hold s' x 1 ((outs ps 255).map vI) := by
  refine Runs.of (fun call => d27 call 100000 v) (show env16.fn.get 27 = some Tryz.f27 by kernel_rfl) rfl (fun call => d27_eq call 100000 v) fun n hn => ?_
  have hvn := HoldP.n h
  refine WP.new ?_
  have hc0 : (push s (bx 1 true false (fl []))).c = s.c + 1 := rfl
  refine WP.loop ps.length (fun i x s' => x = ((i : Int), ()) ∧ Grow s s' ∧ s'.c = s.c + 1 ∧ s'.h.get s.c = some (bx 1 true false (fl (ps.take i))))
    (fun z s' => Grow s s' ∧ s'.c = s.c + 1 ∧ s'.h.get s.c = some (bx 1 true false (fl ps))) (by omega) ⟨rfl, Grow.push s _, rfl, push_at _ _⟩ ?_ ?_
  · rintro i x s1 hi ⟨rfl, g, gc, hb⟩
    refine WP.cond (fun hc => ?_) (fun hc => ?_)
    · have hi' : i < v.n := lt_nat hc
      have hil : i < ps.length := by omega
      have hh := hhd _ (List.getElem_mem hil)
      refine WP.elemF (sh := sU) (x := (ps[i].head : Int)) (h.grow g) hi' (Nat.le_of_ble_eq_true rfl) (by
        show unCells sU (((((ps.flatMap pgC).drop (i * 9)).drop 1)).take 1) = _
        rw [flat_part pgC_len ps i hil 1 1 (by omega)]; rfl) fun p q => ?_
      rw [natK_u64 hh, land_255, signK_u64 (by omega)]
      refine WP.ix (Nat.mod_lt _ (by omega)) ?_
      refine WP.st hb rfl (by rw [fl_len]; have := Nat.mod_lt ps[i].head (show 0 < 256 by omega); show 0 + ps[i].head % 256 * 1 + 1 ≤ 256; omega) ?_
      refine WP.ret ⟨hil, by rw [wrap_up (by omega)], g.upd (Nat.le_refl _) _, gc, ?_⟩
      rw [upd_get, if_pos rfl, Nat.zero_add, Nat.mul_one, fl_snoc, List.take_add_one, List.getElem?_eq_getElem hil]
      rfl
    · have hge := ge_nat hc
      have : ps.take i = ps := List.take_of_length_le (by omega)
      rw [this] at hb
      exact WP.ret ⟨g, gc, hb⟩
  · rintro z s1 ⟨g, gc, hb⟩
    refine WP.loop 255 (fun i x s' => ∃ u : SV, x = (u, (((i + 1 : Nat) : Int), ())) ∧ Own (s.c + 1) s' u 1 ((outs ps i).map vI) ∧ Grow s s' ∧ s.c + 1 ≤ s'.c ∧ s'.h.get s.c = some (bx 1 true false (fl ps)))
      (fun z s' => ∃ u : SV, z = (u, ()) ∧ Own (s.c + 1) s' u 1 ((outs ps 255).map vI) ∧ Grow s s') (by omega) ⟨⟨none, 0, 0⟩, rfl, Own.nil _ _ _, g, by omega, hb⟩ ?_ ?_
    · rintro i x s2 hi ⟨u, rfl, ho, g2, gc2, hb2⟩
      refine WP.cond (fun hc => ?_) (fun hc => ?_)
      · have hi' : i + 1 < 256 := by have h0 : ((i + 1 : Nat) : Int) < 256 := iLt_t hc; omega
        refine WP.bind (R := fun b s' => ∃ u' : SV, b = (u', ()) ∧ Own (s.c + 1) s' u' 1 ((outs ps (i + 1)).map vI) ∧ Grow s s' ∧ s.c + 1 ≤ s'.c ∧ s'.h.get s.c = some (bx 1 true false (fl ps))) ?_ ?_
        · refine WP.ix hi' (WP.ld (sh := sB) (x := has ps (i + 1)) hb2 (by rw [fl_len]; show 0 + (i + 1) * 1 + 1 ≤ 256; omega) ?_ ?_)
          · show unCells sB (((fl ps).drop (0 + (i + 1) * 1)).take 1) = _
            rw [Nat.zero_add, Nat.mul_one, List.drop_eq_getElem_cons (by rw [fl_len]; omega)]
            have e : (fl ps)[i + 1]'(by rw [fl_len]; omega) = .bool (has ps (i + 1)) := by simp [fl]
            rw [e]; rfl
          refine WP.cond (fun hb => ?_) (fun hb => ?_)
          · have hlen : u.n ≤ 255 := by
              have h1 := ho.len
              have h2 := outs_len ps i
              rw [List.length_map] at h1
              omega
            rw [show wrapK IntKind.i64 (Int.sub ((i + 1 : Nat) : Int) 1) = (i : Int) from wrap_down (by omega)]
            refine WP.app1 (bytes := 8) (lo := s.c + 1) (val := vI (i : Int)) (L := (outs ps i).map vI) ho gc2 rfl rfl (by omega) (by omega) rfl (by show (u.n + 1) * 9 ≤ 1000000; omega) fun c u' s4 hn4 ho4 hc4 hk4 hg4 => ?_
            refine WP.ret ⟨_, rfl, ?_, ?_, by omega, ?_⟩
            · rw [outs_succ, if_pos hb, List.map_append]; exact ho4
            · exact hg4 s (by omega) g2
            · rw [hk4 s.c (by omega) (fun a ha e => ?_)]
              · exact hb2
              · rcases ho.at' with ⟨h1, _⟩ | ⟨b, h1, h2, _⟩
                · rw [h1] at ha; cases ha
                · rw [h1] at ha; injection ha with ha; subst ha; simp only at e; omega
          · refine WP.ret ⟨_, rfl, ?_, g2, gc2, hb2⟩
            rw [outs_succ, if_neg (by rw [hb]; decide), List.append_nil]; exact ho
        · rintro b s3 ⟨u', rfl, ho', g', gc', hb'⟩
          exact WP.ret ⟨by omega, u', by rw [wrap_up (by omega)], ho', g', gc', hb'⟩
      · have : i = 255 := by have h0 : (256 : Int) ≤ ((i + 1 : Nat) : Int) := iLt_f hc; omega
        subst this
        exact WP.ret ⟨u, rfl, ho, g2⟩
    · rintro z s2 ⟨u, rfl, ho, g2⟩
      exact WP.ret ⟨u, rfl, g2, ho.hold⟩
end Go.Proofs.YtjlhclmgjdabfaaGreat

/- The two lists of owners are the same.
Conditions: none. -/
namespace Go.Proofs.YtjlhclmgjdabfaaGreat
set_option linter.unusedSimpArgs false
set_option linter.unusedSectionVars false
open Go Go.Ax
set_option linter.unusedVariables false
theorem owners_outs (ps : List Pg) : Lib.compact ((owners ps).mergeSort fun x y => decide (x ≤ y)) = outs ps 255 := by
  obtain ⟨h1, h2⟩ := compact_sort (owners ps)
  refine incr_ext _ _ h1 ?_ fun x => ?_
  · unfold outs
    rw [List.pairwise_map]
    exact (List.Pairwise.filter _ List.pairwise_lt_range).imp fun h => by omega
  · rw [h2]
    unfold owners outs has
    simp only [List.mem_map, List.mem_filter, List.mem_range, List.any_eq_true, decide_eq_true_eq]
    constructor
    · rintro ⟨p, ⟨hp, h⟩, rfl⟩
      have := Nat.mod_lt p.head (show 0 < 256 by omega)
      exact ⟨p.head % 256 - 1, ⟨by omega, p, hp, by omega⟩, by omega⟩
    · rintro ⟨j, ⟨hj, p, hp, e⟩, rfl⟩
      exact ⟨p, ⟨hp, by omega⟩, by omega⟩
end Go.Proofs.YtjlhclmgjdabfaaGreat

/- Contracts that the law about owners needs: Pick, the sanity check; a header that is overwritten.
Conditions: none. -/
namespace Go.Proofs.YtjlhclmgjdabfaaGreat
set_option linter.unusedSimpArgs false
set_option linter.unusedSectionVars false
open Go Go.Ax
set_option linter.unusedVariables false
set_option maxRecDepth 100000

theorem pick_eq (a b : Int) (hb : 0 < b) : Int.tmod (Int.tmod a b + b) b = a % b := by
  have h1 : Int.tmod a b < b := Int.tmod_lt_of_pos a hb
  have h2 : -b < Int.tmod a b := Int.lt_tmod_of_pos a hb
  rw [Int.tmod_eq_emod_of_nonneg (by omega), Int.tmod_def, Int.add_emod_right, Int.sub_mul_emod_self_left]

theorem arM_rem {a b : Int} (hb : b ≠ 0) (s : HS) : arM .rem .i64 a .i64 b s = some (Int.tmod a b, s) := by
  show M.bind (M.ofO (match iEq b 0 with
    | true => none
    | false => ofI .i64 (Int.tmod a b))) (fun v => M.ofO (S1.un (.int .i64) v)) s = _
  rw [iEq_eq, decide_eq_false hb]; rfl

/-- Pick is the modulo that is not negative. -/
theorem r11 (lf : Nat) (a b : Int) (s : HS) (hb : b ≤ 4611686018427387904) : R16 lf 1 11 [vI a, vI b] shI s fun x s' => s' = s ∧ (1 ≤ b → x = a % b) ∧ (b < 1 → x = (0 : Int)) := by
  refine Runs.of (fun call => d11 call lf a b) (show env16.fn.get 11 = some Tryz.f11 by kernel_rfl) rfl (fun call => d11_eq call lf a b) fun n hn => ?_
  refine WP.cond (fun h => WP.ret ⟨(0 : Int), rfl, rfl, fun h' => ?_, fun _ => rfl⟩) (fun h => ?_)
  · have := iLt_t h; omega
  have h1 := iLt_f h
  have h2 : Int.tmod a b < b := Int.tmod_lt_of_pos a (by omega)
  have h3 : -b < Int.tmod a b := Int.lt_tmod_of_pos a (by omega)
  refine WP.op (arM_rem (by omega) s) ?_
  rw [Go.Ax.wrap_small (i := Int.add (Int.tmod a b) b) (by show _ ≤ Int.tmod a b + b; omega) (by show Int.tmod a b + b < _; omega)]
  refine WP.op (arM_rem (by omega) s) ?_
  exact WP.ret ⟨_, rfl, rfl, fun _ => pick_eq a b (by omega), fun h' => by omega⟩

theorem r8 (lf : Nat) (s : HS) : R16 lf 1 8 [] shB s fun x s' => x = true ∧ s' = s := by
  intro n hn
  obtain ⟨m, rfl⟩ : ∃ m, n = m + 1 := ⟨n - 1, by omega⟩
  exact ⟨true, s, rfl, rfl, rfl⟩

theorem flat_set (qs : List Pg) : ∀ (i : Nat) (hi : i < qs.length) (h : Nat), splice (qs.flatMap pgC) (i * 9 + 1) [vU (h : Int)] = (qs.set i { qs[i] with head := h }).flatMap pgC := by
  induction qs with
  | nil => intro i hi; exact absurd hi (Nat.not_lt_zero _)
  | cons q qs ih =>
    intro i hi h
    cases i with
    | zero => rfl
    | succ i =>
      have hi' : i < qs.length := by simpa using hi
      have := ih i hi' h
      rw [List.set_cons_succ, List.flatMap_cons, List.flatMap_cons]
      simp only [List.getElem_cons_succ]
      rw [← this, show (i + 1) * 9 + 1 = (i * 9 + 1) + 9 by omega]
      rfl
end Go.Proofs.YtjlhclmgjdabfaaGreat

/- FetchLocks: for all pages and owners the law answers true.
Conditions: none. -/
namespace Go.Proofs.YtjlhclmgjdabfaaGreat
set_option linter.unusedSimpArgs false
set_option linter.unusedSectionVars false
open Go Go.Ax
set_option linter.unusedVariables false
set_option maxRecDepth 100000

/-- Some header is not unlocked. -/
def busyL (ps : List Pg) : Bool := ps.any fun p => decide (p.head % 256 ≠ 0)
theorem busy_take (ps : List Pg) (i : Nat) (hi : i < ps.length) : busyL (ps.take (i + 1)) = (busyL (ps.take i) || decide (ps[i].head % 256 ≠ 0)) := by
  unfold busyL
  rw [List.take_add_one, List.getElem?_eq_getElem hi, List.any_append]
  simp
theorem busy_of {ps : List Pg} (h : ∃ p ∈ ps, p.head % 256 ≠ 0) : busyL ps = true := by
  obtain ⟨p, h1, h2⟩ := h
  exact List.any_eq_true.2 ⟨p, h1, decide_eq_true h2⟩
theorem busy_no {ps : List Pg} (h : ∀ p ∈ ps, p.head % 256 = 0) : busyL ps = false := by
  cases e : busyL ps with
  | false => rfl
  | true =>
    obtain ⟨p, h1, h2⟩ := List.any_eq_true.1 e
    exact absurd (h p h1) (of_decide_eq_true h2)

theorem HoldP.grow {s t : HS} {v : SV} {ps : List Pg} (h : HoldP s v ps) (g : Grow s t) : HoldP t v ps := Hold.grow h g

theorem r6 (v w : SV) (ps : List Pg) (os : List Int) (s : HS) (hhd : ∀ p ∈ ps, p.head < 18446744073709551616) (h : HoldA (fun _ => True) s v 9 (ps.flatMap pgC)) (hw : HoldI s w os) :
    R16 100000 12 6 [slV v, slV w] shB s fun x s' => x = true := by
  refine Runs.of (fun call => d6 call 100000 v w) (show env16.fn.get 6 = some Tryz.f6 by kernel_rfl) rfl (fun call => d6_eq call 100000 v w) fun n hn => ?_
  have hP : HoldP s v ps := h.hold
  have hvn := HoldP.n hP
  have hwn := HoldI.n hw
  refine WP.bind (R := fun b s' => s' = s ∧ (b = .inr (true, ()) ∨ b = .inl () ∧ ps.length ≤ 40 ∧ os.length ≤ 40)) ?_ ?_
  · refine WP.cond (fun hc => WP.ret ⟨rfl, .inl rfl⟩) (fun hc => ?_)
    refine WP.cond (fun hd => WP.ret ⟨rfl, .inl rfl⟩) (fun hd => WP.ret ⟨rfl, .inr ⟨rfl, ?_, ?_⟩⟩)
    · have h0 : (v.n : Int) ≤ 40 := iLt_f hc
      omega
    · have h0 : (w.n : Int) ≤ 40 := iLt_f hd
      omega
  rintro b s0 ⟨rfl, rfl | ⟨rfl, hm, hm'⟩⟩
  · exact WP.ret ⟨true, rfl, rfl⟩
  have hall : ∀ l : List Pg, allCells (l.flatMap pgC) = true := by
    intro l
    induction l with
    | nil => rfl
    | cons p l ih => rw [List.flatMap_cons]; exact ih
  refine WP.appNil (bytes := 72) h (by omega) (hall ps) (by omega) fun m s1 hmn hO g1 => ?_
  refine WP.loop ps.length (fun i x s' => x = ((i : Int), ()) ∧ Grow s0 s' ∧ ∃ qs : List Pg, qs.length = ps.length ∧ (∀ p ∈ qs, p.head < 18446744073709551616) ∧ Own s0.c s' m 9 (qs.flatMap pgC))
    (fun z s' => Grow s0 s' ∧ ∃ qs : List Pg, qs.length = ps.length ∧ (∀ p ∈ qs, p.head < 18446744073709551616) ∧ Own s0.c s' m 9 (qs.flatMap pgC)) (by omega)
    ⟨rfl, g1, ps, rfl, hhd, hO⟩ ?_ ?_
  · rintro i x s2 hi ⟨rfl, g2, qs, hql, hqh, hqo⟩
    refine WP.bind (R := fun b s' => s' = s2 ∧ (b = .inr () ∨ b = .inl () ∧ i < m.n ∧ i < w.n)) ?_ ?_
    · refine WP.cond (fun hc => WP.cond (fun hd => WP.ret ⟨rfl, .inr ⟨rfl, lt_nat hc, lt_nat hd⟩⟩) (fun hd => WP.ret ⟨rfl, .inl rfl⟩)) (fun hc => WP.ret ⟨rfl, .inl rfl⟩)
    rintro b s3 ⟨rfl, rfl | ⟨rfl, hi1, hi2⟩⟩
    · exact WP.ret ⟨g2, qs, hql, hqh, hqo⟩
    have hi3 : i < os.length := by omega
    have hi4 : i < qs.length := by omega
    refine WP.elem (sh := sI) (x := os[i]) (hw.grow g2) hi2 rfl (int_at os i hi3) fun p => ?_
    refine WP.call (r11 100000 os[i] 4 s3 (by omega)) (by omega) fun x s4 ⟨e, hx, _⟩ => ?_
    rw [e, hx (by omega)]
    rcases hqo.at' with ⟨_, h0⟩ | ⟨b, k1, k2, k3, k4, k5⟩
    · omega
    rw [k1]
    refine WP.ix hi1 (WP.fld ?_)
    have hb0 : 0 ≤ os[i] % 4 := Int.emod_nonneg _ (by omega)
    have hb1 : os[i] % 4 < 4 := Int.emod_lt_of_pos _ (by omega)
    have e1 : wrapK .u64 (Int.add 256 (wrapK .u64 (os[i] % 4))) = ((256 + (os[i] % 4).toNat : Nat) : Int) := by
      rw [wrapK_eq, wrapK_eq, wrap_u .u64 rfl, wrap_u .u64 rfl]
      show (256 + (os[i] % 4) % 18446744073709551616) % 18446744073709551616 = _
      omega
    have hcl := flat_len pgC_len qs
    refine WP.st k4 rfl (by show 0 + i * 9 + 1 + 1 ≤ _; omega) ?_
    rw [e1]
    have hsp : splice (qs.flatMap pgC) (0 + i * 9 + 1) [vU ((256 + (os[i] % 4).toNat : Nat) : Int)] = (qs.set i { qs[i] with head := 256 + (os[i] % 4).toNat }).flatMap pgC := by
      rw [Nat.zero_add]; exact flat_set qs i hi4 _
    have hO' : Own s0.c (upd s3 b (bx 9 false false (splice (qs.flatMap pgC) (0 + i * 9 + 1) [vU ((256 + (os[i] % 4).toNat : Nat) : Int)]))) m 9 ((qs.set i { qs[i] with head := 256 + (os[i] % 4).toNat }).flatMap pgC) := by
      rw [hsp]
      refine ⟨by rw [flat_len pgC_len, List.length_set]; omega, hqo.cap, .inr ⟨b, k1, k2, k3, by rw [upd_get, if_pos rfl], k5⟩⟩
    refine WP.ret ⟨by omega, by rw [wrap_up (by omega)], g2.upd k2 _, _, by rw [List.length_set]; exact hql, fun p hp => ?_, hO'⟩
    rcases List.mem_or_eq_of_mem_set hp with h1 | h1
    · exact hqh p h1
    · rw [h1]; show 256 + _ < _; omega
  rintro z s2 ⟨g2, qs, hql, hqh, hqo⟩
  have hqP : HoldP s2 m qs := hqo.hold
  refine WP.call (r23 m qs s2 (by omega) hqh hqP) (by omega) fun x s3 ⟨g3, hx⟩ => ?_
  have hqP3 : HoldP s3 m qs := hqP.grow g3
  have hmq := HoldP.n hqP
  refine WP.loop qs.length (fun i x s' => x = (busyL (qs.take i), ((i : Int), ())) ∧ s' = s3) (fun z s' => z = (busyL qs, ()) ∧ s' = s3) (by omega) ⟨rfl, rfl⟩ ?_ ?_
  · rintro i x' s4 hi ⟨rfl, rfl⟩
    refine WP.cond (fun hc => ?_) (fun hc => ?_)
    · have hi' : i < m.n := lt_nat hc
      have hil : i < qs.length := by omega
      have hh := hqh _ (List.getElem_mem hil)
      refine WP.cond (fun hb => ?_) (fun hb => ?_)
      · refine WP.ret ⟨hil, ?_, rfl⟩
        have hb : busyL (qs.take i) = true := hb
        rw [busy_take qs i hil, hb, wrap_up (by omega)]; rfl
      · refine WP.elemF (sh := sU) (x := (qs[i].head : Int)) hqP3 hi' (Nat.le_of_ble_eq_true rfl) (by
          show unCells sU (((((qs.flatMap pgC).drop (i * 9)).drop 1)).take 1) = _
          rw [flat_part pgC_len qs i hil 1 1 (by omega)]; rfl) fun p q => ?_
        refine WP.ret ⟨hil, ?_, rfl⟩
        have hb : busyL (qs.take i) = false := hb
        rw [busy_take qs i hil, hb, wrap_up (by omega), natK_u64 hh, land_255, signK_u64 (by omega), iEq_eq]
        have : (!decide (((qs[i].head % 256 : Nat) : Int) = 0)) = (false || decide (qs[i].head % 256 ≠ 0)) := by
          by_cases e : qs[i].head % 256 = 0
          · rw [e]; rfl
          · rw [decide_eq_false (by omega), decide_eq_true e]; rfl
        rw [← this]
    · have hge := ge_nat hc
      refine WP.ret ⟨?_, rfl⟩
      rw [List.take_of_length_le (by omega)]
  rintro z' s4 ⟨rfl, rfl⟩
  -- the four comparisons and the sanity check
  refine WP.bind (R := fun b s' => s' = s4 ∧ b = .inl ()) ?_ ?_
  · rcases hx with ⟨rfl, hb⟩ | ⟨u, rfl, hb, hu⟩
    · rw [busy_of hb]
      refine WP.cond (fun hc => Bool.noConfusion (show false = true from hc)) fun _ => ?_
      refine WP.cond (fun hc => Bool.noConfusion (show false = true from hc)) fun _ => ?_
      refine WP.cond (fun hc => ?_) fun hc => Bool.noConfusion (show true = false from hc)
      refine WP.cond (fun hc => Bool.noConfusion (show false = true from hc)) fun _ => ?_
      refine WP.cond (fun hc => Bool.noConfusion (show false = true from hc)) fun _ => ?_
      refine WP.call (r8 100000 s4) (by omega) fun x s5 ⟨hx, e⟩ => ?_
      rw [hx, e]
      exact WP.cond (fun hc => Bool.noConfusion (show false = true from hc)) fun _ => WP.ret ⟨rfl, rfl⟩
    · rw [busy_no hb]
      have hun : u.n = qs.length := by
        have h1 := hu.len
        rw [flat_len snC_len] at h1; omega
      refine WP.cond (fun hc => Bool.noConfusion (show false = true from hc)) fun _ => ?_
      refine WP.cond (fun hc => ?_) fun hc => Bool.noConfusion (show true = false from hc)
      refine WP.cond (fun hc => Bool.noConfusion (show false = true from hc)) fun _ => ?_
      refine WP.cond (fun hc => Bool.noConfusion (show false = true from hc)) fun _ => ?_
      refine WP.cond (fun hc => ?_) fun hc => Bool.noConfusion (show true = false from hc)
      refine WP.cond (fun hc => ?_) fun _ => ?_
      · exact absurd (show ((u.n : Nat) : Int) = (m.n : Int) by omega) (iEq_f (not_t hc))
      refine WP.call (r8 100000 s4) (by omega) fun x s5 ⟨hx, e⟩ => ?_
      rw [hx, e]
      exact WP.cond (fun hc => Bool.noConfusion (show false = true from hc)) fun _ => WP.ret ⟨rfl, rfl⟩
  rintro b s5 ⟨rfl, rfl⟩
  -- what was seen is what the pages say
  have hseen : ∃ u : SV, x.1 = u ∧ ((u.n = 0) ∨ u.n = qs.length ∧ Hold s5 u 2 (qs.flatMap snC)) := by
    rcases hx with ⟨rfl, hb⟩ | ⟨u, rfl, hb, hu⟩
    · exact ⟨_, rfl, .inl rfl⟩
    · refine ⟨u, rfl, .inr ⟨?_, hu.hold⟩⟩
      have h1 := hu.len
      rw [flat_len snC_len] at h1; omega
  obtain ⟨u, hu1, hu2⟩ := hseen
  rw [show x.1 = u from hu1]
  refine WP.loop qs.length (fun i x s' => x = ((i : Int), ()) ∧ s' = s5) (fun z s' => z = .inl () ∧ s' = s5) (by omega) ⟨rfl, rfl⟩ ?_ ?_
  · rintro i x' s6 hi ⟨rfl, rfl⟩
    refine WP.cond (fun hc => ?_) (fun hc => WP.ret ⟨rfl, rfl⟩)
    have hi' : i < u.n := lt_nat hc
    rcases hu2 with h0 | ⟨hn1, hH⟩
    · omega
    have hil : i < qs.length := by omega
    have hh := hqh _ (List.getElem_mem hil)
    refine WP.elemF (sh := sI) (x := qs[i].line) hH hi' (Nat.le_of_ble_eq_true rfl) (by
      show unCells sI (((((qs.flatMap snC).drop (i * 2)).drop 0)).take 1) = _
      rw [flat_part snC_len qs i hil 0 1 (by omega)]; rfl) fun p q => ?_
    refine WP.elemF (sh := sI) (x := qs[i].line) hqP3 (by omega) (Nat.le_of_ble_eq_true rfl) (by
      show unCells sI (((((qs.flatMap pgC).drop (i * 9)).drop 0)).take 1) = _
      rw [flat_part pgC_len qs i hil 0 1 (by omega)]; rfl) fun p q => ?_
    refine WP.cond (fun hd => absurd rfl (iEq_f (not_t hd))) fun _ => ?_
    refine WP.elemF (sh := sU) (x := (qs[i].head : Int)) hH hi' (Nat.le_of_ble_eq_true rfl) (by
      show unCells sU (((((qs.flatMap snC).drop (i * 2)).drop 1)).take 1) = _
      rw [flat_part snC_len qs i hil 1 1 (by omega)]; rfl) fun p q => ?_
    refine WP.elemF (sh := sU) (x := (qs[i].head : Int)) hqP3 (by omega) (Nat.le_of_ble_eq_true rfl) (by
      show unCells sU (((((qs.flatMap pgC).drop (i * 9)).drop 1)).take 1) = _
      rw [flat_part pgC_len qs i hil 1 1 (by omega)]; rfl) fun p q => ?_
    refine WP.cond (fun hd => absurd rfl (iEq_f (not_t hd))) fun _ => ?_
    exact WP.ret ⟨hil, by rw [wrap_up (by omega)], rfl⟩
  rintro z s6 ⟨rfl, rfl⟩
  have hP6 : HoldP s6 v ps := hP.grow (g2.trans g3)
  refine WP.call (r26 v ps s6 hm hhd hP6) (by omega) fun (x1 : SV) s7 ⟨g7, k1⟩ => ?_
  refine WP.call (r27 v ps s7 hm hhd (hP6.grow g7)) (by omega) fun (x2 : SV) s8 ⟨g8, k2⟩ => ?_
  rw [owners_outs] at k1
  have hol := outs_len ps 255
  refine WP.call (r25 x1 x2 _ _ s8 (by omega) (k1.grow g8) k2) (by omega) fun x s9 ⟨hx, e⟩ => ?_
  rw [hx, e, decide_eq_true rfl]
  refine WP.cond (fun _ => ?_) fun hc => Bool.noConfusion (show true = false from hc)
  have hq8 : HoldP s8 m qs := (hqP3.grow g7).grow g8
  refine WP.call (r26 m qs s8 (by omega) hqh hq8) (by omega) fun (x1 : SV) s7 ⟨g7, k1⟩ => ?_
  refine WP.call (r27 m qs s7 (by omega) hqh (hq8.grow g7)) (by omega) fun (x2 : SV) s8 ⟨g8, k2⟩ => ?_
  rw [owners_outs] at k1
  have hol := outs_len qs 255
  refine WP.call (r25 x1 x2 _ _ s8 (by omega) (k1.grow g8) k2) (by omega) fun x s9 ⟨hx, e⟩ => ?_
  rw [hx, decide_eq_true rfl]
  exact WP.ret ⟨true, rfl, rfl⟩
end Go.Proofs.YtjlhclmgjdabfaaGreat
