/- Contracts of what the statements share: Pick, Lines, Initial, Start, View.
Conditions: none. -/
import Derived.Test.YtifgpgahbbbkpaaGreatAxMa
import Derived.Test.YtifgpgahbbbkpaaGreatCRa
namespace Go.Proofs.YtifgpgahbbbkpaaGreat
set_option linter.unusedSimpArgs false
set_option linter.unusedSectionVars false
open Go Go.Ax
set_option linter.unusedVariables false
set_option maxRecDepth 100000

theorem pick_eq (a b : Int) (hb : 0 < b) : Int.tmod (Int.tmod a b + b) b = a % b := by
  have h1 : Int.tmod a b < b := Int.tmod_lt_of_pos a hb
  have h2 : -b < Int.tmod a b := Int.lt_tmod_of_pos a hb
  rw [Int.tmod_eq_emod_of_nonneg (by omega), Int.tmod_def, Int.add_emod_right, Int.sub_mul_emod_self_left]

theorem arM_rem {a b : Int} (hb : b ≠ 0) (s : HS) : arM .rem .i64 a .i64 b s = some (Int.tmod a b, s) := by
  show M.bind (M.ofO (match iEq b 0 with
    | true => none
    | false => ofI .i64 (Int.tmod a b))) (fun v => M.ofO (S1.un (.int .i64) v)) s = _
  rw [iEq_eq, decide_eq_false hb]; rfl

/-- Pick is the modulo that is not negative. -/
theorem r18 (lf : Nat) (a b : Int) (s : HS) (hb : b ≤ 4611686018427387904) : R13 lf 1 18 [vI a, vI b] shI s fun x s' => s' = s ∧ (1 ≤ b → x = a % b) ∧ (b < 1 → x = (0 : Int)) := by
  refine Runs.of (fun call => d18 call lf a b) (show env13.fn.get 18 = some Tryz.f18 by kernel_rfl) rfl (fun call => d18_eq call lf a b) fun n hn => ?_
  refine WP.cond (fun h => WP.ret ⟨(0 : Int), rfl, rfl, fun h' => ?_, fun _ => rfl⟩) (fun h => ?_)
  · have := iLt_t h; omega
  have h1 := iLt_f h
  have h2 : Int.tmod a b < b := Int.tmod_lt_of_pos a (by omega)
  have h3 : -b < Int.tmod a b := Int.lt_tmod_of_pos a (by omega)
  refine WP.op (arM_rem (by omega) s) ?_
  rw [wrap_small (i := Int.add (Int.tmod a b) b) (by show _ ≤ Int.tmod a b + b; omega) (by show Int.tmod a b + b < _; omega)]
  refine WP.op (arM_rem (by omega) s) ?_
  exact WP.ret ⟨_, rfl, rfl, fun _ => pick_eq a b (by omega), fun h' => by omega⟩

theorem r20 (lf : Nat) (a : Int) (s : HS) : R13 lf 2 20 [vI a] shI s fun x s' => s' = s ∧ x = 98 + a % 7 := by
  refine Runs.of (fun call => d20 call lf a) (show env13.fn.get 20 = some Tryz.f20 by kernel_rfl) rfl (fun call => d20_eq call lf a) fun n hn => ?_
  refine WP.call (r18 lf a 7 s (by omega)) hn fun x s1 ⟨e, hx, _⟩ => ?_
  have hx : x = a % 7 := hx (by omega)
  rw [e, hx]
  refine WP.ret ⟨_, rfl, rfl, ?_⟩
  exact wrap_small (i := Int.add 98 (a % 7)) (by show _ ≤ 98 + a % 7; omega) (by show 98 + a % 7 < _; omega)

/-- The members of view 0. -/
def mems0 (n : Nat) : List Mem := (List.range n).map fun (i : Nat) => ((i : Int), ((1 : Int), true))
theorem mems0_succ (n : Nat) : mems0 (n + 1) = mems0 n ++ [((n : Int), ((1 : Int), true))] := by unfold mems0; rw [List.range_succ, List.map_append]; rfl
theorem mems0_len (n : Nat) : (mems0 n).length = n := by unfold mems0; simp

abbrev shV : S2 := .agg [.int .i64, .slice]
theorem r88 (lf : Nat) (hlf : 2000 ≤ lf) (k : Nat) (hk : 1 ≤ k) (hk5 : k ≤ 5) (s : HS) : R13 lf 1 88 [vI (k : Int)] (.tup [shV, sI]) s fun x s' => x.1.1 = (0 : Int) ∧ HoldA (s.c ≤ ·) s' x.1.2.1 3 ((mems0 k).flatMap memC) ∧ Grow s s' := by
  refine Runs.of (fun call => d88 call lf (k : Int)) (show env13.fn.get 88 = some Tryz.f88 by kernel_rfl) rfl (fun call => d88_eq call lf (k : Int)) fun n hn => ?_
  refine WP.new ?_
  generalize hs0 : push s (bx 1 true false [vI 0, Value.slice none 0 0]) = s0
  have g0 : Grow s s0 := hs0 ▸ Grow.push s _
  have hc0 : s0.c = s.c + 1 := by rw [← hs0]; rfl
  have b0 : s0.h.get s.c = some (bx 1 true false [vI 0, Value.slice none 0 0]) := by rw [← hs0]; exact push_at _ _
  refine WP.bind (R := fun z s' => z = .inl () ∧ s' = s0) (WP.cond (fun h => by have := iLt_t h; omega) (fun h => WP.cond (fun h => by have := iLt_t h; omega) (fun h => WP.ret ⟨rfl, rfl⟩))) ?_
  rintro z s' ⟨hz, hs'⟩
  rw [hz, hs']
  refine WP.newst rfl rfl fun s1 g1 c1 b1 => ?_
  have b01 : s1.h.get s.c = some (bx 1 true false [vI 0, Value.slice none 0 0]) := by rw [g1.keep _ (by omega)]; exact b0
  refine WP.loop k (fun i x s' => x = ((i : Int), ()) ∧ Grow s s' ∧ s'.h.get s.c = some (bx 1 true false [vI 0, Value.slice none 0 0]) ∧ s.c + 2 ≤ s'.c ∧
      ∃ u : SV, s'.h.get s0.c = some (bx 1 true false [vI 0, Value.slice u.a u.n u.c]) ∧ u.n = i ∧ Own (s.c + 2) s' u 3 ((mems0 i).flatMap memC))
    (fun z s' => Grow s s' ∧ s'.h.get s.c = some (bx 1 true false [vI 0, Value.slice none 0 0]) ∧ s.c + 2 ≤ s'.c ∧
      ∃ u : SV, s'.h.get s0.c = some (bx 1 true false [vI 0, Value.slice u.a u.n u.c]) ∧ Own (s.c + 2) s' u 3 ((mems0 k).flatMap memC)) (by omega)
    ⟨rfl, g0.trans g1, b01, by omega, ⟨none, 0, 0⟩, b1, rfl, Own.nil _ _ _⟩ ?_ ?_
  · rintro i x s2 hi ⟨rfl, g, hb0, hc2, u, hu, hun, ow⟩
    refine WP.cond (fun hc => ?_) (fun hc => ?_)
    · have hik : i < k := by have := iLt_t hc; exact Int.ofNat_lt.1 this
      refine WP.field (sh := sS) (x := u) hu (Nat.le_of_ble_eq_true rfl) rfl fun _ => ?_
      refine WP.app1 (lo := s.c + 2) (es := 3) (bytes := 24) (v := u) (val := .agg ⟨memC ((i : Int), ((1 : Int), true))⟩) ow hc2 rfl rfl (by omega) (by omega) rfl (by omega) fun c v' s3 hv' ow' hc3 hk3 gr => ?_
      have ub : ∀ a, u.a = some a → s.c + 2 ≤ a.block := fun a ha => by
        rcases ow.at' with ⟨h1, _⟩ | ⟨b, h1, h2, _⟩
        · rw [h1] at ha; cases ha
        · rw [h1] at ha; injection ha with ha; rw [← ha]; exact h2
      have k3 : ∀ b, b < s.c + 2 → s3.h.get b = s2.h.get b := fun b hb => hk3 b (by omega) fun a ha e => by have := ub a ha; omega
      refine WP.fld (WP.st (es := 1) (ti := true) (L := [vI 0, Value.slice u.a u.n u.c]) (by show s3.h.get s0.c = _; rw [k3 s0.c (by omega)]; exact hu) rfl (Nat.le_of_ble_eq_true rfl) (WP.ret ?_))
      refine ⟨hik, by rw [wrap_up (by omega)], (gr s (by omega) g).upd (by show s.c ≤ s0.c; omega) _, ?_, by rw [upd_c]; omega, v', ?_, by omega, ?_⟩
      · rw [upd_get, if_neg (show s.c ≠ s0.c by omega), k3 _ (by omega)]; exact hb0
      · rw [upd_get, if_pos rfl]; rfl
      · rw [mems0_succ, List.flatMap_append]
        exact (ow'.upd (show s0.c < s.c + 2 by omega) _)
    · have : k = i := by have := iLt_f hc; have := Int.ofNat_le.1 this; omega
      subst this
      exact WP.ret ⟨g, hb0, hc2, u, hu, ow⟩
  · rintro z s2 ⟨g, hb0, hc2, u, hu, ow⟩
    refine WP.ld (sh := shV) (x := ((0 : Int), u, ())) hu (Nat.le_of_ble_eq_true rfl) rfl ?_
    refine WP.st hb0 rfl (Nat.le_of_ble_eq_true rfl) ?_
    refine WP.ld (sh := shV) (x := ((0 : Int), u, ())) (es := 1) (ti := true) (ro := false) (L := [vI 0, .slice u.a u.n u.c]) (by rw [upd_get, if_pos rfl]; rfl) (Nat.le_of_ble_eq_true rfl) rfl ?_
    refine WP.ret ⟨(((0 : Int), u, ()), ((0 : Int), ())), rfl, rfl, ?_, g.upd (Nat.le_refl _) _⟩
    exact ((ow.upd (show s.c < s.c + 2 by omega) _).holdA).mono fun b _ hb => by omega

theorem r43 (lf : Nat) (hlf : 2000 ≤ lf) (k : Nat) (hk : 1 ≤ k) (hk5 : k ≤ 5) (s : HS) : R13 lf 2 43 [vI (k : Int)] (.v shV) s fun x s' => x.1 = (0 : Int) ∧ HoldA (s.c ≤ ·) s' x.2.1 3 ((mems0 k).flatMap memC) ∧ Grow s s' := by
  refine Runs.of (fun call => d43 call lf (k : Int)) (show env13.fn.get 43 = some Tryz.f43 by kernel_rfl) rfl (fun call => d43_eq call lf (k : Int)) fun n hn => ?_
  refine WP.new ?_
  generalize hs0 : push s (bx 1 true false [vI 0, Value.slice none 0 0]) = s0
  have g0 : Grow s s0 := hs0 ▸ Grow.push s _
  have hc0 : s0.c = s.c + 1 := by rw [← hs0]; rfl
  have b0 : s0.h.get s.c = some (bx 1 true false [vI 0, Value.slice none 0 0]) := by rw [← hs0]; exact push_at _ _
  refine WP.call (r88 lf hlf k hk hk5 s0) (by omega) fun x s1 ⟨h1, h2, g1⟩ => ?_
  obtain ⟨⟨x1, u, _⟩, x2, _⟩ := x
  simp only at h1 h2
  subst h1
  refine WP.newst rfl rfl fun s2 g2 c2 b2 => ?_
  have g12 := g1.trans g2
  refine WP.ld (sh := shV) (x := ((0 : Int), u, ())) b2 (Nat.le_of_ble_eq_true rfl) rfl ?_
  refine WP.st (by rw [g12.keep _ (by omega)]; exact b0) rfl (Nat.le_of_ble_eq_true rfl) ?_
  refine WP.ld (sh := shV) (x := ((0 : Int), u, ())) (es := 1) (ti := true) (ro := false) (L := [vI 0, .slice u.a u.n u.c]) (by rw [upd_get, if_pos rfl]; rfl) (Nat.le_of_ble_eq_true rfl) rfl ?_
  refine WP.ret ⟨((0 : Int), u, ()), rfl, rfl, ?_, (g0.trans g12).upd (Nat.le_refl _) _⟩
  exact ((h2.grow g2).upd (show ¬ s0.c ≤ s.c by omega) _).mono fun b _ hb => by omega
end Go.Proofs.YtifgpgahbbbkpaaGreat

/- Contract of bodegahand.View: what it returns is a view of one to five members.
Conditions: none. -/
namespace Go.Proofs.YtifgpgahbbbkpaaGreat
set_option linter.unusedSimpArgs false
set_option linter.unusedSectionVars false
open Go Go.Ax
set_option linter.unusedVariables false
set_option maxRecDepth 100000

theorem arM_shr {k k' : IntKind} {x y : Int} (hx : 0 ≤ x) (hy : 0 ≤ y) (s : HS) : ∃ r : Int, 0 ≤ r ∧ arM .shr k x k' y s = some (r, s) := by
  obtain ⟨a, rfl⟩ := Int.eq_ofNat_of_zero_le hx
  obtain ⟨b, rfl⟩ := Int.eq_ofNat_of_zero_le hy
  have key : ∀ m : Nat, M.bind (M.ofO (ofI k (force m Int.ofNat))) (fun v => M.ofO (S1.un (.int k) v)) s = some ((m : Int), s) := by
    intro m
    rw [force_eq]
    show M.ofO (match nEq k k with | true => some (Int.ofNat m) | false => none) s = _
    rw [(nEq_iff k k).2 rfl]; rfl
  have hs : ∃ m : Nat, binII .shr k (a : Int) k' (b : Int) = ofI k (force m Int.ofNat) := by
    show ∃ m : Nat, (match Nat.ble b (bitsOf k) with
      | true => ofI k (force (shrN a b) Int.ofNat)
      | false => ofI k (force (shrN a (bitsOf k)) Int.ofNat)) = _
    cases Nat.ble b (bitsOf k) with
    | true => exact ⟨_, rfl⟩
    | false => exact ⟨_, rfl⟩
  obtain ⟨m, hm⟩ := hs
  refine ⟨(m : Int), by omega, ?_⟩
  unfold arM
  rw [hm]
  exact key m

theorem wrap_u64 {i : Int} (h1 : 0 ≤ i) (h2 : i < 18446744073709551616) : wrapK .u64 i = i := by
  rw [wrapK_eq, wrap_u .u64 rfl]
  show i % 18446744073709551616 = i
  omega

/-- A block of members of its own. -/
structure MRows (lo : Nat) (s : HS) (u : SV) (ms : List Mem) : Prop where
  n : u.n = ms.length
  c : u.c = ms.length
  at' : ∃ b ti, u.a = some ⟨b, 0, none⟩ ∧ lo ≤ b ∧ b < s.c ∧ s.h.get b = some (bx 3 ti false (ms.flatMap memC))

theorem MRows.holdA {lo : Nat} {s : HS} {u : SV} {ms : List Mem} (h : MRows lo s u ms) : HoldA (lo ≤ ·) s u 3 (ms.flatMap memC) := by
  obtain ⟨b, ti, h1, h2, h3, h4⟩ := h.at'
  have hl := flat_len memC_len ms
  refine ⟨by rw [hl, h.n], .inr ⟨b, 0, 3, ti, false, _, h1, h2, h4, h3, by rw [hl, h.n]; omega, by rw [List.drop_zero, h.n, ← hl, List.take_length], .inr rfl⟩⟩
theorem MRows.upd {lo : Nat} {s : HS} {u : SV} {ms : List Mem} (h : MRows lo s u ms) {b : Nat} (hb : b < lo) (o : AObj) : MRows lo (upd s b o) u ms := by
  obtain ⟨b', ti, h1, h2, h3, h4⟩ := h.at'
  exact ⟨h.n, h.c, b', ti, h1, h2, h3, by rw [upd_get, if_neg (by omega)]; exact h4⟩
theorem MRows.ofOwn {lo : Nat} {s : HS} {u : SV} {ms : List Mem} (h : Own lo s u 3 (ms.flatMap memC)) (hn : u.n ≠ 0) : MRows lo s u ms := by
  have hl := h.len
  rw [flat_len memC_len ms] at hl
  refine ⟨by omega, by rw [h.cap]; omega, ?_⟩
  rcases h.at' with ⟨_, h2⟩ | ⟨b, h1, h2, h3, h4, h5⟩
  · exact absurd h2 hn
  · exact ⟨b, false, h1, h2, h3, h4⟩
theorem MRows.set {lo : Nat} {s : HS} {u : SV} {m : Mem} {ms : List Mem} (h : MRows lo s u (m :: ms)) :
    ∃ b ti L, u.a = some ⟨b, 0, none⟩ ∧ lo ≤ b ∧ s.h.get b = some (bx 3 ti false L) ∧ 3 ≤ L.length ∧ MRows lo (Ax.upd s b (bx 3 ti false (splice L 2 [.bool true]))) u ((m.1, m.2.1, true) :: ms) := by
  obtain ⟨b, ti, h1, h2, h3, h4⟩ := h.at'
  refine ⟨b, ti, _, h1, h2, h4, by rw [flat_len memC_len]; simp; omega, h.n, h.c, b, ti, h1, h2, h3, ?_⟩
  rw [upd_get, if_pos rfl]; rfl

theorem r46 (lf : Nat) (hlf : 2000 ≤ lf) (mask : Int) (k : Nat) (hk5 : k ≤ 5) (s : HS) :
    R13 lf 2 46 [vI 0, vI mask, vI 31, .slice none 0 0, vI (k : Int)] (.v shV) s fun x s' => x.1 = (0 : Int) ∧ (∃ ms : List Mem, 1 ≤ ms.length ∧ ms.length ≤ 5 ∧ HoldA (s.c ≤ ·) s' x.2.1 3 (ms.flatMap memC)) ∧ Grow s s' := by
  refine Runs.of (fun call => d46 call lf 0 mask 31 ⟨none, 0, 0⟩ (k : Int)) (show env13.fn.get 46 = some Tryz.f46 by kernel_rfl) rfl (fun call => d46_eq call lf 0 mask 31 ⟨none, 0, 0⟩ (k : Int)) fun n hn => ?_
  refine WP.new ?_
  generalize hs0 : push s (bx 1 true false [vI 0, Value.slice none 0 0]) = s0
  have g0 : Grow s s0 := hs0 ▸ Grow.push s _
  have hc0 : s0.c = s.c + 1 := by rw [← hs0]; rfl
  have b0 : s0.h.get s.c = some (bx 1 true false [vI 0, Value.slice none 0 0]) := by rw [← hs0]; exact push_at _ _
  refine WP.call (r18 lf 0 16 s0 (by omega)) (by omega) fun x s1 ⟨e, hx, _⟩ => ?_
  have hx : x = (0 : Int) := (hx (by omega)).trans rfl
  rw [e, hx]
  refine WP.newst rfl rfl fun s1 g1 c1 b1 => ?_
  have b01 : s1.h.get s.c = some (bx 1 true false [vI 0, Value.slice none 0 0]) := by rw [g1.keep _ (by omega)]; exact b0
  refine WP.loop k (fun i x s' => x = (x.1, (i : Int), ()) ∧ Grow s s' ∧ s'.h.get s.c = some (bx 1 true false [vI 0, Value.slice none 0 0]) ∧ s.c + 2 ≤ s'.c ∧
      ∃ (u : SV) (ms : List Mem), s'.h.get s0.c = some (bx 1 true false [vI 0, Value.slice u.a u.n u.c]) ∧ u.n ≤ i ∧ Own (s.c + 2) s' u 3 (ms.flatMap memC))
    (fun z s' => Grow s s' ∧ s'.h.get s.c = some (bx 1 true false [vI 0, Value.slice none 0 0]) ∧ s.c + 2 ≤ s'.c ∧
      ∃ (u : SV) (ms : List Mem), s'.h.get s0.c = some (bx 1 true false [vI 0, Value.slice u.a u.n u.c]) ∧ u.n ≤ 5 ∧ Own (s.c + 2) s' u 3 (ms.flatMap memC)) (by omega)
    ⟨rfl, g0.trans g1, b01, by omega, ⟨none, 0, 0⟩, [], b1, Nat.le_refl _, Own.nil _ _ _⟩ ?_ ?_
  · rintro i ⟨any, x2⟩ s2 hi ⟨hxx, g, hb0, hc2, u, ms, hu, hun, ow⟩
    have hx2 : x2 = ((i : Int), ()) := (Prod.mk.inj hxx).2
    subst hx2
    refine WP.cond (fun hc => ?_) (fun hc => ?_)
    · have hik : i < k := by have := iLt_t hc; exact Int.ofNat_lt.1 this
      refine WP.bind (R := fun y s' => Grow s s' ∧ s'.h.get s.c = some (bx 1 true false [vI 0, Value.slice none 0 0]) ∧ s.c + 2 ≤ s'.c ∧
        ∃ (u : SV) (ms : List Mem), s'.h.get s0.c = some (bx 1 true false [vI 0, Value.slice u.a u.n u.c]) ∧ u.n ≤ i + 1 ∧ Own (s.c + 2) s' u 3 (ms.flatMap memC)) ?_ fun y s3 ⟨h1, h2, h3, h4⟩ => WP.ret ⟨hik, by rw [wrap_up (by omega)], h1, h2, h3, h4⟩
      refine WP.call (r18 lf mask 32 s2 (by omega)) (by omega) fun p s3 ⟨e, hp, _⟩ => ?_
      have hp : p = mask % 32 := hp (by omega)
      rw [e, hp]
      obtain ⟨q, hq, hq'⟩ := arM_shr (k := .i64) (k' := .u64) (x := mask % 32) (y := wrapK .u64 (i : Int)) (by omega) (by rw [wrap_u64 (by omega) (by omega)]; omega) s2
      refine WP.op hq' (WP.cond (fun hb => WP.ret ⟨g, hb0, hc2, u, ms, hu, by omega, ow⟩) (fun hb => ?_))
      refine WP.call (r18 lf 31 32 s2 (by omega)) (by omega) fun p s3 ⟨e, hp, _⟩ => ?_
      have hp : p = (31 : Int) := (hp (by omega)).trans rfl
      rw [e, hp]
      obtain ⟨q2, hq2, hq2'⟩ := arM_shr (k := .i64) (k' := .u64) (x := 31) (y := wrapK .u64 (i : Int)) (by omega) (by rw [wrap_u64 (by omega) (by omega)]; omega) s2
      refine WP.op hq2' ?_
      refine WP.newst rfl rfl fun s3 g3 c3 b3 => ?_
      generalize hful : iEq (signK IntKind.i64 ((natK IntKind.i64 q2).land 1)) 1 = full at b3
      have gg := g.trans g3
      have hu3 : s3.h.get s0.c = some (bx 1 true false [vI 0, Value.slice u.a u.n u.c]) := by rw [g3.keep _ (by omega)]; exact hu
      have hb03 : s3.h.get s.c = some (bx 1 true false [vI 0, Value.slice none 0 0]) := by rw [g3.keep _ (by omega)]; exact hb0
      have ow3 := ow.grow g3
      refine WP.bind (R := fun _ s' => s' = s3) ?_ ?_
      · refine WP.cond (fun hb => ?_) (fun _ => WP.ret rfl)
        have : (i : Int) < ((0 : Nat) : Int) := iLt_t hb
        omega
      intro _ s4 e4
      rw [e4]
      have ub : ∀ a, u.a = some a → s.c + 2 ≤ a.block := fun a ha => by
        rcases ow.at' with ⟨h1, _⟩ | ⟨b, h1, h2, _⟩
        · rw [h1] at ha; cases ha
        · rw [h1] at ha; injection ha with ha; rw [← ha]; exact h2
      have fin : ∀ (c : Nat) (v' : SV) (s4 : HS), v'.n = u.n + 1 → Own (s.c + 2) s4 v' 3 (ms.flatMap memC ++ memC ((i : Int), ((1 : Int), full))) → s3.c ≤ s4.c → (∀ b, b < s3.c → (∀ a, u.a = some a → b ≠ a.block) → s4.h.get b = s3.h.get b) → (∀ t, t.c ≤ s.c + 2 → Grow t s3 → Grow t s4) →
          ∀ y : Bool × Unit, WP (Tr.op (fldM 1 (some (Addr.mk s0.c 0 none))) fun (x22 : Addr) => Tr.op (stM [Value.slice v'.a v'.n v'.c] (some x22)) fun (x23 : Unit) => Tr.ret y) s4 fun y s' => Grow s s' ∧ s'.h.get s.c = some (bx 1 true false [vI 0, Value.slice none 0 0]) ∧ s.c + 2 ≤ s'.c ∧
        ∃ (u : SV) (ms : List Mem), s'.h.get s0.c = some (bx 1 true false [vI 0, Value.slice u.a u.n u.c]) ∧ u.n ≤ i + 1 ∧ Own (s.c + 2) s' u 3 (ms.flatMap memC) := by
        intro c v' s4 hv' ow' hc4 hk4 gr y
        have k4 : ∀ b, b < s.c + 2 → s4.h.get b = s3.h.get b := fun b hb => hk4 b (by omega) fun a ha e => by have := ub a ha; omega
        refine WP.fld (WP.st (es := 1) (ti := true) (L := [vI 0, Value.slice u.a u.n u.c]) (by show s4.h.get s0.c = _; rw [k4 s0.c (by omega)]; exact hu3) rfl (Nat.le_of_ble_eq_true rfl) (WP.ret ?_))
        refine ⟨(gr s (by omega) gg).upd (by show s.c ≤ s0.c; omega) _, ?_, by rw [upd_c]; omega, v', ms ++ [((i : Int), ((1 : Int), full))], ?_, by omega, ?_⟩
        · rw [upd_get, if_neg (show s.c ≠ s0.c by omega), k4 s.c (by omega)]; exact hb03
        · rw [upd_get, if_pos rfl]; rfl
        · rw [List.flatMap_append]
          exact (ow'.upd (show s0.c < s.c + 2 by omega) _)
      refine WP.bind (R := fun _ s' => s' = s3) (WP.cond (fun _ => WP.ret rfl) (fun _ => WP.field (sh := sB) (x := full) b3 (Nat.le_of_ble_eq_true rfl) rfl fun _ => WP.ret rfl)) ?_
      intro y s5 e5
      rw [e5]
      refine WP.field (sh := sS) (x := u) hu3 (Nat.le_of_ble_eq_true rfl) rfl fun _ => ?_
      refine WP.ld (sh := sM) (x := ((i : Int), (1 : Int), full, ())) b3 (Nat.le_of_ble_eq_true rfl) rfl ?_
      exact WP.app1 (lo := s.c + 2) (es := 3) (bytes := 24) (v := u) (val := .agg ⟨memC ((i : Int), ((1 : Int), full))⟩) ow3 (by omega) rfl rfl (by omega) (by omega) rfl (by omega) fun c v' s4 h1 h2 h3 h4 h5 => fin c v' s4 h1 h2 h3 h4 h5 _
    · exact WP.ret ⟨g, hb0, hc2, u, ms, hu, by omega, ow⟩
  · rintro ⟨any, _⟩ s2 ⟨g, hb0, hc2, u, ms, hu, hun, ow⟩
    refine WP.bind (R := fun _ s' => Grow s s' ∧ s'.h.get s.c = some (bx 1 true false [vI 0, Value.slice none 0 0]) ∧ s.c + 2 ≤ s'.c ∧
      ∃ (u : SV) (ms : List Mem), s'.h.get s0.c = some (bx 1 true false [vI 0, Value.slice u.a u.n u.c]) ∧ 1 ≤ ms.length ∧ ms.length ≤ 5 ∧ MRows (s.c + 2) s' u ms) ?_ ?_
    · refine WP.field (sh := sS) (x := u) hu (Nat.le_of_ble_eq_true rfl) rfl fun _ => ?_
      refine WP.cond (fun hb => ?_) (fun hb => ?_)
      · refine WP.op (bsM_one (es := 3) rfl rfl (by omega)) ?_
        refine WP.fld (WP.st (es := 1) (ti := true) (L := [vI 0, Value.slice u.a u.n u.c]) (by show (push s2 _).h.get s0.c = _; rw [push_get, if_neg (by omega)]; exact hu) rfl (Nat.le_of_ble_eq_true rfl) (WP.ret ?_))
        refine ⟨(g.then_push _).upd (show s.c ≤ s0.c by omega) _, ?_, by rw [upd_c, push_c]; omega, ⟨some ⟨s2.c, 0, none⟩, 1, 1⟩, [((0 : Int), ((1 : Int), false))], ?_, Nat.le_refl 1, by decide, ⟨rfl, rfl, s2.c, true, rfl, hc2, Nat.lt_succ_self _, ?_⟩⟩
        · rw [upd_get, if_neg (show s.c ≠ s0.c by omega), push_get, if_neg (by omega)]; exact hb0
        · rw [upd_get, if_pos rfl]; rfl
        · rw [upd_get, if_neg (show s2.c ≠ s0.c by omega), push_get, if_pos rfl]; rfl
      · have hne : u.n ≠ 0 := fun e => iEq_f hb (by show ((u.n : Nat) : Int) = 0; rw [e]; rfl)
        have hr := MRows.ofOwn ow hne
        exact WP.ret ⟨g, hb0, hc2, u, ms, hu, by have := hr.n; omega, by have := hr.n; omega, hr⟩
    rintro _ s3 ⟨g, hb0, hc2, u, ms, hu, h1, h5, hr⟩
    refine WP.bind (R := fun _ s' => Grow s s' ∧ s'.h.get s.c = some (bx 1 true false [vI 0, Value.slice none 0 0]) ∧ s.c + 2 ≤ s'.c ∧
      ∃ (u : SV) (ms : List Mem), s'.h.get s0.c = some (bx 1 true false [vI 0, Value.slice u.a u.n u.c]) ∧ 1 ≤ ms.length ∧ ms.length ≤ 5 ∧ MRows (s.c + 2) s' u ms) ?_ ?_
    · refine WP.cond (fun hb => ?_) (fun hb => WP.ret ⟨g, hb0, hc2, u, ms, hu, h1, h5, hr⟩)
      refine WP.field (sh := sS) (x := u) hu (Nat.le_of_ble_eq_true rfl) rfl fun _ => ?_
      match ms, h1, h5, hr with
      | m :: ms, h1, h5, hr =>
        have hrn := hr.n
        obtain ⟨b, ti, L, e1, e2, e3, e4, hr'⟩ := hr.set
        rw [e1]
        refine WP.ix (n := u.n) (es := 3) (i := 0) (by rw [hrn]; exact Nat.succ_pos _) (WP.fld (WP.st (off := 2) (L := L) e3 rfl (by show 2 + 1 ≤ L.length; omega) (WP.ret ?_)))
        refine ⟨g.upd (by show s.c ≤ b; omega) _, ?_, hc2, u, (m.1, m.2.1, true) :: ms, ?_, Nat.le_add_left 1 _, h5, hr'⟩
        · rw [upd_get, if_neg (show s.c ≠ b by omega)]; exact hb0
        · rw [upd_get, if_neg (show s0.c ≠ b by omega)]; exact hu
    rintro _ s4 ⟨g, hb0, hc2, u, ms, hu, h1, h5, hr⟩
    refine WP.ld (sh := shV) (x := ((0 : Int), u, ())) hu (Nat.le_of_ble_eq_true rfl) rfl ?_
    refine WP.st hb0 rfl (Nat.le_of_ble_eq_true rfl) ?_
    refine WP.ld (sh := shV) (x := ((0 : Int), u, ())) (es := 1) (ti := true) (ro := false) (L := [vI 0, .slice u.a u.n u.c]) (by rw [upd_get, if_pos rfl]; rfl) (Nat.le_of_ble_eq_true rfl) rfl ?_
    refine WP.ret ⟨((0 : Int), u, ()), rfl, rfl, ⟨ms, h1, h5, ?_⟩, g.upd (Nat.le_refl _) _⟩
    exact ((hr.upd (show s.c < s.c + 2 by omega) _).holdA).mono fun b _ hb => by omega
end Go.Proofs.YtifgpgahbbbkpaaGreat
