/- What a sorted list keeps when it drops what stands twice: the numbers that occur, ascending.
Conditions: none. -/
import Derived.Lib.SlicesCompact
import Derived.Test.YtjlhclmgjdabfaaGreatA16
import Derived.Test.YtjlhclmgjdabfaaGreatAxMa
import Derived.Test.YtjlhclmgjdabfaaGreatAxN
import Derived.Test.YtjlhclmgjdabfaaGreatDVL
namespace Go.Ax
set_option linter.unusedSimpArgs false
set_option linter.unusedSectionVars false
set_option linter.unusedVariables false

theorem incr_ext : ∀ (l m : List Int), l.Pairwise (· < ·) → m.Pairwise (· < ·) → (∀ x, x ∈ l ↔ x ∈ m) → l = m
  | [], [], _, _, _ => rfl
  | [], y :: m, _, _, h => absurd ((h y).2 List.mem_cons_self) List.not_mem_nil
  | x :: l, [], _, _, h => absurd ((h x).1 List.mem_cons_self) List.not_mem_nil
  | x :: l, y :: m, hl, hm, h => by
    rw [List.pairwise_cons] at hl hm
    have hx := (h x).1 List.mem_cons_self
    have hy := (h y).2 List.mem_cons_self
    have e : x = y := by
      rcases List.mem_cons.1 hx with e | hx
      · exact e
      · rcases List.mem_cons.1 hy with e | hy
        · exact e.symm
        · have := hm.1 x hx; have := hl.1 y hy; omega
    subst e
    rw [incr_ext l m hl.2 hm.2 fun z => ?_]
    constructor
    · intro hz
      rcases List.mem_cons.1 ((h z).1 (List.mem_cons_of_mem _ hz)) with e | h'
      · have := hl.1 z hz; omega
      · exact h'
    · intro hz
      rcases List.mem_cons.1 ((h z).2 (List.mem_cons_of_mem _ hz)) with e | h'
      · have := hm.1 z hz; omega
      · exact h'

theorem compactUpTo_spec (d : Array Int) (hs : ∀ i j, i ≤ j → j < d.size → d[i]! ≤ d[j]!) : ∀ m, m ≤ d.size → (Lib.compactUpTo d m).Pairwise (· < ·) ∧ ∀ x, x ∈ Lib.compactUpTo d m ↔ ∃ j, j < m ∧ d[j]! = x
  | 0, _ => ⟨by simp [Lib.compactUpTo], fun x => by simp [Lib.compactUpTo]⟩
  | m + 1, hm => by
    obtain ⟨h1, h2⟩ := compactUpTo_spec d hs m (by omega)
    rw [Lib.compactUpTo_succ]
    by_cases hk : Lib.keeps d m = true
    · rw [if_pos hk]
      refine ⟨?_, fun x => ?_⟩
      · rw [List.pairwise_append]
        refine ⟨h1, by simp, fun a ha b hb => ?_⟩
        rw [List.mem_singleton] at hb; subst hb
        obtain ⟨j, hj, rfl⟩ := (h2 a).1 ha
        have k1 := hs j (m - 1) (by omega) (by omega)
        have k2 := hs (m - 1) m (by omega) (by omega)
        have k3 : d[m]! ≠ d[m - 1]! := by
          intro e
          rw [Lib.keeps_neg (by omega) e] at hk; cases hk
        omega
      · rw [List.mem_append, h2, List.mem_singleton]
        constructor
        · rintro (⟨j, hj, e⟩ | e)
          · exact ⟨j, by omega, e⟩
          · exact ⟨m, by omega, e.symm⟩
        · rintro ⟨j, hj, e⟩
          by_cases h : j = m
          · subst h; exact .inr e.symm
          · exact .inl ⟨j, by omega, e⟩
    · rw [if_neg hk, List.append_nil]
      refine ⟨h1, fun x => ?_⟩
      rw [h2]
      constructor
      · rintro ⟨j, hj, e⟩; exact ⟨j, by omega, e⟩
      · rintro ⟨j, hj, e⟩
        by_cases h : j = m
        · subst h
          have hp : 0 < j := by
            rcases Nat.eq_zero_or_pos j with h0 | h0
            · exact absurd (Lib.keeps_lt_one d j (by omega)) hk
            · exact h0
          have : d[j]! = d[j - 1]! := by
            apply Classical.byContradiction
            intro hne
            exact hk (Lib.keeps_pos hne)
          exact ⟨j - 1, by omega, by rw [← this]; exact e⟩
        · exact ⟨j, by omega, e⟩

theorem compact_sort (L : List Int) : (Lib.compact (L.mergeSort fun x y => decide (x ≤ y))).Pairwise (· < ·) ∧ ∀ x, x ∈ Lib.compact (L.mergeSort fun x y => decide (x ≤ y)) ↔ x ∈ L := by
  have hp : (L.mergeSort fun x y => decide (x ≤ y)).Pairwise (fun x y => decide (x ≤ y) = true) := List.pairwise_mergeSort (fun a b c h1 h2 => by simp at h1 h2 ⊢; omega) (fun a b => by simp; omega) L
  generalize hM : (L.mergeSort fun x y => decide (x ≤ y)) = M at hp
  have hmem : ∀ x, x ∈ M ↔ x ∈ L := fun x => by rw [← hM]; exact List.mem_mergeSort
  have hs : ∀ i j, i ≤ j → j < M.toArray.size → M.toArray[i]! ≤ M.toArray[j]! := by
    intro i j hij hj
    have hj' : j < M.length := by simpa using hj
    rw [getElem!_pos M.toArray i (by simp; omega), getElem!_pos M.toArray j (by simpa using hj')]
    simp only [List.getElem_toArray]
    rcases Nat.eq_or_lt_of_le hij with e | h
    · subst e; exact Int.le_refl _
    · have := List.pairwise_iff_getElem.1 hp i j (by omega) hj' h
      simpa using this
  obtain ⟨h1, h2⟩ := compactUpTo_spec M.toArray hs M.length (by simp)
  refine ⟨h1, fun x => ?_⟩
  rw [← hmem]
  refine (h2 x).trans ⟨fun ⟨j, hj, e⟩ => ?_, fun hx => ?_⟩
  · rw [getElem!_pos M.toArray j (by simpa using hj)] at e
    rw [← e]; simp
  · obtain ⟨j, hj, e⟩ := List.getElem_of_mem hx
    exact ⟨j, hj, by rw [getElem!_pos M.toArray j (by simpa using hj)]; simpa using e⟩
end Go.Ax

/- Contracts of the functions that look at pages' headers.
Conditions: none. -/
namespace Go.Proofs.YtjlhclmgjdabfaaGreat
set_option linter.unusedSimpArgs false
set_option linter.unusedSectionVars false
open Go Go.Ax
set_option linter.unusedVariables false
set_option maxRecDepth 100000
abbrev R16 (lf d f : Nat) (args : List Value) (sh : S3) (s : HS) (Q : sh.Sem → HS → Prop) : Prop := Runs env16 lf tbl16 d f args sh s Q
abbrev shI : S3 := .v (.one (.int .i64))
abbrev shB : S3 := .v (.one .bool)
/-- A page. -/
structure Pg where
  line : Int
  head : Nat
  d0 : Int
  d1 : Int
  d2 : Int
  d3 : Int
  d4 : Int
  d5 : Int
  d6 : Int
def pgC (p : Pg) : List Value := [vI p.line, vU (p.head : Int), vU p.d0, vU p.d1, vU p.d2, vU p.d3, vU p.d4, vU p.d5, vU p.d6]
theorem pgC_len (p : Pg) : (pgC p).length = 9 := rfl
abbrev HoldP (s : HS) (v : SV) (ps : List Pg) : Prop := Hold s v 9 (ps.flatMap pgC)
theorem HoldP.n {s : HS} {v : SV} {ps : List Pg} (h : HoldP s v ps) : v.n = ps.length := by
  have := h.len
  rw [flat_len pgC_len] at this
  omega

theorem r60 (lf h : Nat) (hh : h < 18446744073709551616) (s : HS) : R16 lf 1 60 [vU (h : Int)] shB s fun x s' => x = decide (h % 256 = 0) ∧ s' = s := by
  refine Runs.of (fun call => d60 call lf (h : Int)) (show env16.fn.get 60 = some Tryz.f60 by kernel_rfl) rfl (fun call => d60_eq call lf (h : Int)) fun n hn => ?_
  refine WP.ret ⟨_, rfl, ?_, rfl⟩
  rw [natK_u64 hh, land_255, signK_u64 (by omega), iEq_eq]
  by_cases e : h % 256 = 0
  · rw [e]; rfl
  · rw [decide_eq_false e, decide_eq_false (by omega)]
theorem r61 (lf h : Nat) (hh : h < 18446744073709551616) (s : HS) : R16 lf 1 61 [vU (h : Int)] (.tup [.one (.int .u64), .one (.int .i64)]) s fun x s' => x = (((h / 256 : Nat) : Int), ((h % 256 : Nat) : Int), ()) ∧ s' = s := by
  refine Runs.of (fun call => d61 call lf (h : Int)) (show env16.fn.get 61 = some Tryz.f61 by kernel_rfl) rfl (fun call => d61_eq call lf (h : Int)) fun n hn => ?_
  refine WP.op (arM_shr_nat (k := .u64) (k' := .u64) h 8 (by decide) s) ?_
  refine WP.ret ⟨(((h / 256 : Nat) : Int), ((h % 256 : Nat) : Int), ()), ?_, rfl, rfl⟩
  rw [natK_u64 hh, land_255, signK_u64 (by omega), show wrapK IntKind.i64 ((h % 256 : Nat) : Int) = ((h % 256 : Nat) : Int) from Go.Ax.wrap_small (by omega) (by omega)]
  rfl

/-! ### fetch.Owners -/
def owners (ps : List Pg) : List Int := (ps.filter fun p => decide (0 < p.head % 256)).map fun p => ((p.head % 256 : Nat) : Int) - 1
theorem owners_len (ps : List Pg) : (owners ps).length ≤ ps.length := by unfold owners; rw [List.length_map]; exact List.length_filter_le _ _
theorem owners_snoc (ps : List Pg) (p : Pg) : owners (ps ++ [p]) = owners ps ++ (if 0 < p.head % 256 then [((p.head % 256 : Nat) : Int) - 1] else []) := by
  unfold owners
  rw [List.filter_append, List.map_append]
  congr 1
  by_cases h : 0 < p.head % 256
  · rw [if_pos h, List.filter_cons_of_pos (by simpa using h)]; rfl
  · rw [if_neg h, List.filter_cons_of_neg (by simpa using h)]; rfl
end Go.Proofs.YtjlhclmgjdabfaaGreat

/- The sort of nothing; nothing made unique.
Conditions: none. -/
namespace Go.Proofs.YtjlhclmgjdabfaaGreat
set_option linter.unusedSimpArgs false
set_option linter.unusedSectionVars false
open Go Go.Ax
set_option linter.unusedVariables false
set_option maxRecDepth 1000000
theorem sort_nil (m : Nat) (s : HS) : callT env16 100000 tbl16 (m + 8) (.fn 62) [.slice none 0 0] s = some (.tuple ⟨[]⟩, s) := by kernel_rfl
theorem compact_nil (m : Nat) (s : HS) : callT env16 100000 tbl16 (m + 8) (.fn 63) [.slice none 0 0] s = some (.slice none 0 0, s) := by kernel_rfl
end Go.Proofs.YtjlhclmgjdabfaaGreat

/- Contract of fetch.Owners.
Conditions: none. -/
namespace Go.Proofs.YtjlhclmgjdabfaaGreat
set_option linter.unusedSimpArgs false
set_option linter.unusedSectionVars false
open Go Go.Ax
set_option linter.unusedVariables false
set_option maxRecDepth 100000
abbrev sPg : S2 := .agg [.int .i64, .int .u64, .int .u64, .int .u64, .int .u64, .int .u64, .int .u64, .int .u64, .int .u64]
theorem owners_take (ps : List Pg) (i : Nat) (hi : i < ps.length) : owners (ps.take (i + 1)) = owners (ps.take i) ++ (if 0 < ps[i].head % 256 then [((ps[i].head % 256 : Nat) : Int) - 1] else []) := by
  rw [List.take_add_one, List.getElem?_eq_getElem hi]
  exact owners_snoc _ _

theorem run62 (m : Nat) (s : HS) : R16 100000 8 62 [.slice none 0 0] (.tup []) s fun _ s' => s' = s := fun n hn => by
  obtain ⟨m, rfl⟩ : ∃ m, n = m + 8 := ⟨n - 8, by omega⟩
  exact ⟨(), s, sort_nil m s, rfl⟩
theorem run63 (m : Nat) (s : HS) : R16 100000 8 63 [.slice none 0 0] (.v (.one .slice)) s fun (x : SV) s' => x = ⟨none, 0, 0⟩ ∧ s' = s := fun n hn => by
  obtain ⟨m, rfl⟩ : ∃ m, n = m + 8 := ⟨n - 8, by omega⟩
  exact ⟨(⟨none, 0, 0⟩ : SV), s, compact_nil m s, rfl, rfl⟩
theorem grow_upd {s t : HS} (g : Grow s t) {b : Nat} (hb : s.c ≤ b) (o : AObj) : Grow s (upd t b o) := g.upd hb o

theorem r26 (v : SV) (ps : List Pg) (s : HS) (hm : ps.length ≤ 40) (hhd : ∀ p ∈ ps, p.head < 18446744073709551616) (h : HoldP s v ps) :
    R16 100000 10 26 [slV v] (.v (.one .slice)) s fun x s' => Grow s s' ∧ Hold s' x 1 ((Lib.compact ((owners ps).mergeSort fun x y => decide (x ≤ y))).map vI) := by
  refine Runs.of (fun call => d26 call 100000 v) (show env16.fn.get 26 = some Tryz.f26 by kernel_rfl) rfl (fun call => d26_eq call 100000 v) fun n hn => ?_
  have hvn := HoldP.n h
  refine WP.loop ps.length (fun i x s' => ∃ u : SV, x = (u, ((i : Int), ())) ∧ Own s.c s' u 1 ((owners (ps.take i)).map vI) ∧ Grow s s')
    (fun z s' => ∃ u : SV, z = (u, ()) ∧ Own s.c s' u 1 ((owners ps).map vI) ∧ Grow s s') (by omega) ⟨⟨none, 0, 0⟩, rfl, Own.nil _ _ _, Grow.refl s⟩ ?_ ?_
  · rintro i x s1 hi ⟨u, rfl, ho, g⟩
    refine WP.cond (fun hc => ?_) (fun hc => ?_)
    · have hi' : i < v.n := lt_nat hc
      have hil : i < ps.length := by omega
      refine WP.bind (R := fun b s' => ∃ u' : SV, b = (u', ()) ∧ Own s.c s' u' 1 ((owners (ps.take (i + 1))).map vI) ∧ Grow s s') ?_ ?_
      · refine WP.elem (sh := sPg) (x := (ps[i].line, (ps[i].head : Int), ps[i].d0, ps[i].d1, ps[i].d2, ps[i].d3, ps[i].d4, ps[i].d5, ps[i].d6, ())) (h.grow g) hi' rfl (by rw [flat_drop pgC_len ps i hil]; rfl) fun p => ?_
        refine WP.newst rfl rfl fun s2 g2 c2 b2 => ?_
        refine WP.field (sh := sU) (x := (ps[i].head : Int)) b2 (Nat.le_of_ble_eq_true rfl) rfl fun _ => ?_
        refine WP.call (r61 100000 ps[i].head (hhd _ (List.getElem_mem hil)) s2) (by omega) fun x s3 ⟨hx, e⟩ => ?_
        rw [e, hx]
        have hlen : u.n ≤ 40 := by
          have h1 := ho.len
          have h2 := owners_len (ps.take i)
          rw [List.length_map] at h1
          rw [List.length_take] at h2
          omega
        have gc := g.c
        refine WP.cond (fun hb => ?_) (fun hb => ?_)
        · have hpos : 0 < ps[i].head % 256 := by have := iLt_t hb; simp only at this; omega
          refine WP.app1 (bytes := 8) (lo := s.c) (val := vI (wrapK .i64 (Int.sub ((ps[i].head % 256 : Nat) : Int) 1))) (L := (owners (ps.take i)).map vI) (ho.grow g2) (by have := g2.c; omega) rfl rfl (by omega) (by omega) rfl (by show (u.n + 1) * 9 ≤ 1000000; omega) fun c u' s4 hn4 ho4 hc4 hk4 hg4 => ?_
          refine WP.ret ⟨_, rfl, ?_, hg4 _ (Nat.le_refl _) (g.trans g2)⟩
          rw [owners_take ps i hil, if_pos hpos, List.map_append]
          have e1 : wrapK IntKind.i64 (Int.sub ((ps[i].head % 256 : Nat) : Int) 1) = ((ps[i].head % 256 : Nat) : Int) - 1 := Go.Ax.wrap_small (by show _ ≤ ((ps[i].head % 256 : Nat) : Int) - 1; omega) (by show ((ps[i].head % 256 : Nat) : Int) - 1 < _; omega)
          rw [e1] at ho4
          exact ho4
        · have hz : ¬ 0 < ps[i].head % 256 := by have := iLt_f hb; simp only at this; omega
          refine WP.ret ⟨_, rfl, ?_, g.trans g2⟩
          rw [owners_take ps i hil, if_neg hz, List.append_nil]
          exact ho.grow g2
      · rintro b s2 ⟨u', rfl, ho', g'⟩
        exact WP.ret ⟨hil, u', by rw [wrap_up (by omega)], ho', g'⟩
    · refine WP.ret ⟨u, rfl, ?_, g⟩
      have : ps.take i = ps := List.take_of_length_le (by have := ge_nat hc; omega)
      rw [this] at ho
      exact ho
  · rintro z s1 ⟨u, rfl, ho, g⟩
    by_cases hz : owners ps = []
    · rw [hz] at ho ⊢
      have h1 := ho.len
      have hn0 : u.n = 0 := by simpa using h1.symm
      have hu : u = ⟨none, 0, 0⟩ := by
        obtain ⟨a, un, uc⟩ := u
        have hc := ho.cap
        simp only at hn0 hc
        subst hn0; subst hc
        rcases ho.at' with ⟨e, _⟩ | ⟨b, _, _, _, _, h5⟩
        · simp only at e; rw [e]
        · exact absurd h5 (by simp)
      subst hu
      refine WP.call (run62 0 s1) (by omega) fun x s2 e => ?_
      rw [e]
      refine WP.call (run63 0 s1) (by omega) fun (x : SV) s3 ⟨hx, e⟩ => ?_
      rw [e]
      refine WP.ret ⟨x, rfl, g, ?_⟩
      rw [hx]
      have e0 : Lib.compact (([] : List Int).mergeSort fun x y => decide (x ≤ y)) = [] := by simp [Lib.compact, Lib.compactUpTo]
      rw [e0]
      exact ⟨rfl, .inl rfl⟩
    · have hle := owners_len ps
      have hl := ho.len
      rw [List.length_map, Nat.mul_one] at hl
      have hun : 0 < u.n := by
        rw [← hl]
        cases ho' : owners ps with
        | nil => exact absurd ho' hz
        | cons => simp
      obtain ⟨un, hun'⟩ : ∃ un, u.n = un + 1 := ⟨u.n - 1, by omega⟩
      refine WP.call (Runs.row (f := 62) (o := sortOp) (fun a => by rw [hun']; rfl) (sort_ok.len _) ho hz (by omega) (.tup []) () (fun a _ => rfl)) (by omega) fun x s2 ⟨_, ho2, b, hb1, hb2, e2⟩ => ?_
      have g2 : Grow s s2 := by rw [e2]; exact g.upd hb1 _
      have hne : sortOp.g (owners ps) ≠ [] := fun e => by have := sort_ok.len (owners ps); rw [e] at this; simp at this; omega
      refine WP.call (Runs.row (f := 63) (o := compactOp) (fun a => by rw [hun']; rfl) (compact_ok.len _) ho2 hne (by rw [sort_ok.len]; omega) (.v (.one .slice)) (⟨u.a, (Lib.compact (sortOp.g (owners ps))).length, u.c⟩ : SV) (fun a ha => by
        show Value.slice u.a _ u.c = Value.slice (some a) _ u.c
        rw [ha])) (by omega) fun (x : SV) s3 ⟨hx, ho3, b', hb3, hb4, e3⟩ => ?_
      have g3 : Grow s s3 := by rw [e3]; exact g2.upd hb3 _
      refine WP.ret ⟨x, rfl, g3, ?_⟩
      rw [hx]
      refine ⟨by rw [List.length_map, Nat.mul_one]; rfl, .inr ?_⟩
      rcases ho3.at' with ⟨_, h0⟩ | ⟨b2, k1, k2, k3, k4, k5⟩
      · omega
      · refine ⟨b2, 0, 1, false, false, _, k1, k4, k3, ?_, ?_⟩
        · rw [List.length_map, compact_ok.len, Nat.zero_add, Nat.mul_one]; exact compact_le _
        · show ((((Lib.compact (sortOp.g (owners ps)) ++ List.replicate _ 0).map vI).drop 0).take ((Lib.compact (sortOp.g (owners ps))).length * 1)) = _
          rw [List.drop_zero, Nat.mul_one, List.map_append, List.take_append_of_le_length (by rw [List.length_map]; exact Nat.le_refl _), List.take_of_length_le (by rw [List.length_map]; exact Nat.le_refl _)]
          rfl
end Go.Proofs.YtjlhclmgjdabfaaGreat

/- Contract of bodegahand.SameInts.
Conditions: none. -/
namespace Go.Proofs.YtjlhclmgjdabfaaGreat
set_option linter.unusedSimpArgs false
set_option linter.unusedSectionVars false
open Go Go.Ax
set_option linter.unusedVariables false
set_option maxRecDepth 100000
abbrev HoldI (s : HS) (v : SV) (zs : List Int) : Prop := Hold s v 1 (zs.map vI)
theorem HoldI.n {s : HS} {v : SV} {zs : List Int} (h : HoldI s v zs) : v.n = zs.length := by
  have := h.len
  rw [List.length_map] at this
  omega
theorem int_at (zs : List Int) (i : Nat) (hi : i < zs.length) : unCells sI (((zs.map vI).drop (i * 1)).take 1) = some zs[i] := by
  rw [Nat.mul_one, List.drop_eq_getElem_cons (by rw [List.length_map]; exact hi), List.take_succ_cons, List.take_zero, List.getElem_map]
  rfl
theorem r25 (a b : SV) (xs ys : List Int) (s : HS) (hm : xs.length ≤ 1100) (hx : HoldI s a xs) (hy : HoldI s b ys) : R16 100000 2 25 [slV a, slV b] shB s fun x s' => x = decide (xs = ys) ∧ s' = s := by
  refine Runs.of (fun call => d25 call 100000 a b) (show env16.fn.get 25 = some Tryz.f25 by kernel_rfl) rfl (fun call => d25_eq call 100000 a b) fun n hn => ?_
  have h1 := HoldI.n hx
  have h2 := HoldI.n hy
  refine WP.cond (fun hc => WP.ret ⟨false, rfl, ?_, rfl⟩) (fun hc => ?_)
  · have := not_t hc
    rw [decide_eq_false]
    intro e; subst e
    exact absurd (show (a.n : Int) = b.n by omega) (iEq_f this)
  · have hl : xs.length = ys.length := by
      have h3 : (a.n : Int) = b.n := iEq_t (not_f hc)
      omega
    refine WP.loop xs.length (fun i x s' => x = ((i : Int), ()) ∧ s' = s ∧ ∀ j, j < i → xs[j]? = ys[j]?)
      (fun z s' => s' = s ∧ ((z = .inl () ∧ xs = ys) ∨ (z = .inr (false, ()) ∧ xs ≠ ys))) (by omega) ⟨rfl, rfl, fun j hj => by omega⟩ ?_ ?_
    · rintro i x s1 hi ⟨rfl, rfl, hf⟩
      refine WP.cond (fun hc => ?_) (fun hc => ?_)
      · have hi' : i < a.n := lt_nat hc
        have hil : i < xs.length := by omega
        refine WP.elem (sh := sI) (x := xs[i]) hx hi' rfl (int_at xs i hil) fun p => ?_
        refine WP.elem (sh := sI) (x := ys[i]) hy (by omega) rfl (int_at ys i (by omega)) fun p => ?_
        refine WP.cond (fun hb => WP.ret ⟨rfl, .inr ⟨rfl, ?_⟩⟩) (fun hb => WP.ret ⟨hil, by rw [wrap_up (by omega)], rfl, fun j hj => ?_⟩)
        · intro e
          subst e
          exact absurd rfl (iEq_f (not_t hb))
        · by_cases e : j = i
          · subst e
            rw [List.getElem?_eq_getElem hil, List.getElem?_eq_getElem (by omega), iEq_t (not_f hb)]
          · exact hf j (by omega)
      · refine WP.ret ⟨rfl, .inl ⟨rfl, List.ext_getElem? fun j => ?_⟩⟩
        by_cases hj : j < i
        · exact hf j hj
        · have := ge_nat hc
          rw [List.getElem?_eq_none (by omega), List.getElem?_eq_none (by omega)]
    · rintro z s1 ⟨rfl, ⟨rfl, e⟩ | ⟨rfl, e⟩⟩
      · exact WP.ret ⟨true, rfl, (decide_eq_true e).symm, rfl⟩
      · exact WP.ret ⟨false, rfl, (decide_eq_false e).symm, rfl⟩
end Go.Proofs.YtjlhclmgjdabfaaGreat

/- Contract of fetch.Seen.
Conditions: none. -/
namespace Go.Proofs.YtjlhclmgjdabfaaGreat
set_option linter.unusedSimpArgs false
set_option linter.unusedSectionVars false
open Go Go.Ax
set_option linter.unusedVariables false
set_option maxRecDepth 100000
def snC (p : Pg) : List Value := [vI p.line, vU (p.head : Int)]
theorem snC_len (p : Pg) : (snC p).length = 2 := rfl
theorem sn_take (ps : List Pg) (i : Nat) (hi : i < ps.length) : (ps.take (i + 1)).flatMap snC = (ps.take i).flatMap snC ++ snC ps[i] := by
  rw [List.take_add_one, List.getElem?_eq_getElem hi, List.flatMap_append]
  rfl
theorem r23 (v : SV) (ps : List Pg) (s : HS) (hm : ps.length ≤ 40) (hhd : ∀ p ∈ ps, p.head < 18446744073709551616) (h : HoldP s v ps) :
    R16 100000 4 23 [slV v] (.tup [.one .slice, .one (.int .i64)]) s fun x s' => Grow s s' ∧
      ((x = ((⟨none, 0, 0⟩ : SV), (3 : Int), ()) ∧ ∃ p ∈ ps, p.head % 256 ≠ 0) ∨ ∃ u : SV, x = (u, (0 : Int), ()) ∧ (∀ p ∈ ps, p.head % 256 = 0) ∧ Own s.c s' u 2 (ps.flatMap snC)) := by
  refine Runs.of (fun call => d23 call 100000 v) (show env16.fn.get 23 = some Tryz.f23 by kernel_rfl) rfl (fun call => d23_eq call 100000 v) fun n hn => ?_
  have hvn := HoldP.n h
  refine WP.loop ps.length (fun i x s' => ∃ u : SV, x = (u, ((i : Int), ())) ∧ Own s.c s' u 2 ((ps.take i).flatMap snC) ∧ Grow s s' ∧ ∀ j (hj : j < ps.length), j < i → ps[j].head % 256 = 0)
    (fun z s' => Grow s s' ∧ ((z = .inr ((⟨none, 0, 0⟩ : SV), (3 : Int), ()) ∧ ∃ p ∈ ps, p.head % 256 ≠ 0) ∨ ∃ u : SV, z = .inl (u, ()) ∧ (∀ p ∈ ps, p.head % 256 = 0) ∧ Own s.c s' u 2 (ps.flatMap snC)))
    (by omega) ⟨⟨none, 0, 0⟩, rfl, Own.nil _ _ _, Grow.refl s, fun j _ hj => by omega⟩ ?_ ?_
  · rintro i x s1 hi ⟨u, rfl, ho, g, hf⟩
    refine WP.cond (fun hc => ?_) (fun hc => ?_)
    · have hi' : i < v.n := lt_nat hc
      have hil : i < ps.length := by omega
      refine WP.elem (sh := sPg) (x := (ps[i].line, (ps[i].head : Int), ps[i].d0, ps[i].d1, ps[i].d2, ps[i].d3, ps[i].d4, ps[i].d5, ps[i].d6, ())) (h.grow g) hi' rfl (by rw [flat_drop pgC_len ps i hil]; rfl) fun p => ?_
      refine WP.newst rfl rfl fun s2 g2 c2 b2 => ?_
      refine WP.field (sh := sU) (x := (ps[i].head : Int)) b2 (Nat.le_of_ble_eq_true rfl) rfl fun _ => ?_
      refine WP.call (r60 100000 ps[i].head (hhd _ (List.getElem_mem hil)) s2) (by omega) fun x s3 ⟨hx, e⟩ => ?_
      rw [e, hx]
      refine WP.cond (fun hb => WP.ret ⟨g.trans g2, .inl ⟨rfl, ps[i], List.getElem_mem hil, ?_⟩⟩) (fun hb => ?_)
      · exact of_decide_eq_false (not_t hb)
      have hz : ps[i].head % 256 = 0 := of_decide_eq_true (not_f hb)
      refine WP.field (sh := sI) (x := ps[i].line) b2 (Nat.le_of_ble_eq_true rfl) rfl fun _ => ?_
      refine WP.field (sh := sU) (x := (ps[i].head : Int)) b2 (Nat.le_of_ble_eq_true rfl) rfl fun _ => ?_
      have hlen : u.n ≤ 40 := by
        have h1 := ho.len
        rw [flat_len snC_len, List.length_take] at h1
        omega
      have gc := g.c
      refine WP.app1 (bytes := 16) (lo := s.c) (val := .agg ⟨[vI ps[i].line, vU (ps[i].head : Int)]⟩) (L := (ps.take i).flatMap snC) (ho.grow g2) (by have := g2.c; omega) rfl rfl (by omega) (by omega) rfl (by show (u.n + 1) * 17 ≤ 1000000; omega) fun c u' s4 hn4 ho4 hc4 hk4 hg4 => ?_
      refine WP.ret ⟨hil, u', by rw [wrap_up (by omega)], ?_, hg4 _ (Nat.le_refl _) (g.trans g2), fun j hj hji => ?_⟩
      · rw [sn_take ps i hil]; exact ho4
      · by_cases e : j = i
        · subst e; exact hz
        · exact hf j hj (by omega)
    · have hge := ge_nat hc
      have : ps.take i = ps := List.take_of_length_le (by omega)
      rw [this] at ho
      refine WP.ret ⟨g, .inr ⟨u, rfl, fun p hp => ?_, ho⟩⟩
      obtain ⟨j, hj, e⟩ := List.getElem_of_mem hp
      rw [← e]; exact hf j hj (by omega)
  · rintro z s1 ⟨g, ⟨rfl, hb⟩ | ⟨u, rfl, hall, ho⟩⟩
    · exact WP.ret ⟨_, rfl, g, .inl ⟨rfl, hb⟩⟩
    · exact WP.ret ⟨(u, (0 : Int), ()), rfl, g, .inr ⟨u, rfl, hall, ho⟩⟩
end Go.Proofs.YtjlhclmgjdabfaaGreat
