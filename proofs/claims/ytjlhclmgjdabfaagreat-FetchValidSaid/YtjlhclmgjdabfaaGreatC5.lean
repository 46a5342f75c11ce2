/- Contracts of what the statements share: Pick, Lines, Initial, Start, View.
Conditions: none. -/
import Derived.Test.YtjlhclmgjdabfaaGreatC4
import Derived.Test.YtjlhclmgjdabfaaGreatAxM3
namespace Go.Proofs.YtjlhclmgjdabfaaGreat
set_option linter.unusedSimpArgs false
set_option linter.unusedSectionVars false
open Go Go.Ax
set_option linter.unusedVariables false
set_option maxRecDepth 100000

theorem pick_eq (a b : Int) (hb : 0 < b) : Int.tmod (Int.tmod a b + b) b = a % b := by
  have h1 : Int.tmod a b < b := Int.tmod_lt_of_pos a hb
  have h2 : -b < Int.tmod a b := Int.lt_tmod_of_pos a hb
  rw [Int.tmod_eq_emod_of_nonneg (by omega), Int.tmod_def, Int.add_emod_right, Int.sub_mul_emod_self_left]

theorem arM_rem {a b : Int} (hb : b ≠ 0) (s : HS) : arM .rem .i64 a .i64 b s = some (Int.tmod a b, s) := by
  show M.bind (M.ofO (match iEq b 0 with
    | true => none
    | false => ofI .i64 (Int.tmod a b))) (fun v => M.ofO (S1.un (.int .i64) v)) s = _
  rw [iEq_eq, decide_eq_false hb]; rfl

/-- Pick is the modulo that is not negative. -/
theorem r11 (lf : Nat) (a b : Int) (s : HS) (hb : b ≤ 4611686018427387904) : R16 lf 1 11 [vI a, vI b] shI s fun x s' => s' = s ∧ (1 ≤ b → x = a % b) ∧ (b < 1 → x = (0 : Int)) := by
  refine Runs.of (fun call => d11 call lf a b) (show env16.fn.get 11 = some Tryz.f11 by kernel_rfl) rfl (fun call => d11_eq call lf a b) fun n hn => ?_
  refine WP.cond (fun h => WP.ret ⟨(0 : Int), rfl, rfl, fun h' => ?_, fun _ => rfl⟩) (fun h => ?_)
  · have := iLt_t h; omega
  have h1 := iLt_f h
  have h2 : Int.tmod a b < b := Int.tmod_lt_of_pos a (by omega)
  have h3 : -b < Int.tmod a b := Int.lt_tmod_of_pos a (by omega)
  refine WP.op (arM_rem (by omega) s) ?_
  rw [wrap_small (i := Int.add (Int.tmod a b) b) (by show _ ≤ Int.tmod a b + b; omega) (by show Int.tmod a b + b < _; omega)]
  refine WP.op (arM_rem (by omega) s) ?_
  exact WP.ret ⟨_, rfl, rfl, fun _ => pick_eq a b (by omega), fun h' => by omega⟩

theorem r17 (lf : Nat) (a : Int) (s : HS) : R16 lf 2 17 [vI a] shI s fun x s' => s' = s ∧ x = 98 + a % 7 := by
  refine Runs.of (fun call => d17 call lf a) (show env16.fn.get 17 = some Tryz.f17 by kernel_rfl) rfl (fun call => d17_eq call lf a) fun n hn => ?_
  refine WP.call (r11 lf a 7 s (by omega)) hn fun x s1 ⟨e, hx, _⟩ => ?_
  have hx : x = a % 7 := hx (by omega)
  rw [e, hx]
  refine WP.ret ⟨_, rfl, rfl, ?_⟩
  exact wrap_small (i := Int.add 98 (a % 7)) (by show _ ≤ 98 + a % 7; omega) (by show 98 + a % 7 < _; omega)

/-- The members of view 0. -/
def mems0 (n : Nat) : List Mem := (List.range n).map fun (i : Nat) => ((i : Int), ((1 : Int), true))
theorem mems0_succ (n : Nat) : mems0 (n + 1) = mems0 n ++ [((n : Int), ((1 : Int), true))] := by unfold mems0; rw [List.range_succ, List.map_append]; rfl
theorem mems0_len (n : Nat) : (mems0 n).length = n := by unfold mems0; simp

abbrev shV : S2 := .agg [.int .i64, .slice]
theorem r56 (lf : Nat) (hlf : 2000 ≤ lf) (k : Nat) (hk : 1 ≤ k) (hk5 : k ≤ 5) (s : HS) : R16 lf 1 56 [vI (k : Int)] (.tup [shV, sI]) s fun x s' => x.1.1 = (0 : Int) ∧ HoldA (s.c ≤ ·) s' x.1.2.1 3 ((mems0 k).flatMap memC) ∧ Grow s s' := by
  refine Runs.of (fun call => d56 call lf (k : Int)) (show env16.fn.get 56 = some Tryz.f56 by kernel_rfl) rfl (fun call => d56_eq call lf (k : Int)) fun n hn => ?_
  refine WP.new ?_
  generalize hs0 : push s (bx 1 true false [vI 0, Value.slice none 0 0]) = s0
  have g0 : Grow s s0 := hs0 ▸ Grow.push s _
  have hc0 : s0.c = s.c + 1 := by rw [← hs0]; rfl
  have b0 : s0.h.get s.c = some (bx 1 true false [vI 0, Value.slice none 0 0]) := by rw [← hs0]; exact push_at _ _
  refine WP.cond (fun h => ?_) (fun h => ?_)
  · have := iLt_t h; omega
  refine WP.cond (fun h => ?_) (fun h => ?_)
  · have := iLt_t h; omega
  refine WP.newst rfl rfl fun s1 g1 c1 b1 => ?_
  have b01 : s1.h.get s.c = some (bx 1 true false [vI 0, Value.slice none 0 0]) := by rw [g1.keep _ (by omega)]; exact b0
  refine WP.loop k (fun i x s' => x = ((i : Int), ()) ∧ Grow s s' ∧ s'.h.get s.c = some (bx 1 true false [vI 0, Value.slice none 0 0]) ∧ s.c + 2 ≤ s'.c ∧
      ∃ u : SV, s'.h.get s0.c = some (bx 1 true false [vI 0, Value.slice u.a u.n u.c]) ∧ u.n = i ∧ Own (s.c + 2) s' u 3 ((mems0 i).flatMap memC))
    (fun z s' => Grow s s' ∧ s'.h.get s.c = some (bx 1 true false [vI 0, Value.slice none 0 0]) ∧ s.c + 2 ≤ s'.c ∧
      ∃ u : SV, s'.h.get s0.c = some (bx 1 true false [vI 0, Value.slice u.a u.n u.c]) ∧ Own (s.c + 2) s' u 3 ((mems0 k).flatMap memC)) (by omega)
    ⟨rfl, g0.trans g1, b01, by omega, ⟨none, 0, 0⟩, b1, rfl, Own.nil _ _ _⟩ ?_ ?_
  · rintro i x s2 hi ⟨rfl, g, hb0, hc2, u, hu, hun, ow⟩
    refine WP.cond (fun hc => ?_) (fun hc => ?_)
    · have hik : i < k := by have := iLt_t hc; exact Int.ofNat_lt.1 this
      refine WP.field (sh := sS) (x := u) hu (Nat.le_of_ble_eq_true rfl) rfl fun _ => ?_
      refine WP.app1 (lo := s.c + 2) (es := 3) (bytes := 24) (v := u) (val := .agg ⟨memC ((i : Int), ((1 : Int), true))⟩) ow hc2 rfl rfl (by omega) (by omega) rfl (by omega) fun c v' s3 hv' ow' hc3 hk3 gr => ?_
      have ub : ∀ a, u.a = some a → s.c + 2 ≤ a.block := fun a ha => by
        rcases ow.at' with ⟨h1, _⟩ | ⟨b, h1, h2, _⟩
        · rw [h1] at ha; cases ha
        · rw [h1] at ha; injection ha with ha; rw [← ha]; exact h2
      have k3 : ∀ b, b < s.c + 2 → s3.h.get b = s2.h.get b := fun b hb => hk3 b (by omega) fun a ha e => by have := ub a ha; omega
      refine WP.fld (WP.st (es := 1) (ti := true) (L := [vI 0, Value.slice u.a u.n u.c]) (by show s3.h.get s0.c = _; rw [k3 s0.c (by omega)]; exact hu) rfl (Nat.le_of_ble_eq_true rfl) (WP.ret ?_))
      refine ⟨hik, by rw [wrap_up (by omega)], (gr s (by omega) g).upd (by show s.c ≤ s0.c; omega) _, ?_, by rw [upd_c]; omega, v', ?_, by omega, ?_⟩
      · rw [upd_get, if_neg (show s.c ≠ s0.c by omega), k3 _ (by omega)]; exact hb0
      · rw [upd_get, if_pos rfl]; rfl
      · rw [mems0_succ, List.flatMap_append]
        exact (ow'.upd (show s0.c < s.c + 2 by omega) _)
    · have : k = i := by have := iLt_f hc; have := Int.ofNat_le.1 this; omega
      subst this
      exact WP.ret ⟨g, hb0, hc2, u, hu, ow⟩
  · rintro z s2 ⟨g, hb0, hc2, u, hu, ow⟩
    refine WP.ld (sh := shV) (x := ((0 : Int), u, ())) hu (Nat.le_of_ble_eq_true rfl) rfl ?_
    refine WP.st hb0 rfl (Nat.le_of_ble_eq_true rfl) ?_
    refine WP.ld (sh := shV) (x := ((0 : Int), u, ())) (es := 1) (ti := true) (ro := false) (L := [vI 0, .slice u.a u.n u.c]) (by rw [upd_get, if_pos rfl]; rfl) (Nat.le_of_ble_eq_true rfl) rfl ?_
    refine WP.ret ⟨(((0 : Int), u, ()), ((0 : Int), ())), rfl, rfl, ?_, g.upd (Nat.le_refl _) _⟩
    exact ((ow.upd (show s.c < s.c + 2 by omega) _).holdA).mono fun b _ hb => by omega

theorem r21 (lf : Nat) (hlf : 2000 ≤ lf) (k : Nat) (hk : 1 ≤ k) (hk5 : k ≤ 5) (s : HS) : R16 lf 2 21 [vI (k : Int)] (.v shV) s fun x s' => x.1 = (0 : Int) ∧ HoldA (s.c ≤ ·) s' x.2.1 3 ((mems0 k).flatMap memC) ∧ Grow s s' := by
  refine Runs.of (fun call => d21 call lf (k : Int)) (show env16.fn.get 21 = some Tryz.f21 by kernel_rfl) rfl (fun call => d21_eq call lf (k : Int)) fun n hn => ?_
  refine WP.new ?_
  generalize hs0 : push s (bx 1 true false [vI 0, Value.slice none 0 0]) = s0
  have g0 : Grow s s0 := hs0 ▸ Grow.push s _
  have hc0 : s0.c = s.c + 1 := by rw [← hs0]; rfl
  have b0 : s0.h.get s.c = some (bx 1 true false [vI 0, Value.slice none 0 0]) := by rw [← hs0]; exact push_at _ _
  refine WP.call (r56 lf hlf k hk hk5 s0) (by omega) fun x s1 ⟨h1, h2, g1⟩ => ?_
  obtain ⟨⟨x1, u, _⟩, x2, _⟩ := x
  simp only at h1 h2
  subst h1
  refine WP.newst rfl rfl fun s2 g2 c2 b2 => ?_
  have g12 := g1.trans g2
  refine WP.ld (sh := shV) (x := ((0 : Int), u, ())) b2 (Nat.le_of_ble_eq_true rfl) rfl ?_
  refine WP.st (by rw [g12.keep _ (by omega)]; exact b0) rfl (Nat.le_of_ble_eq_true rfl) ?_
  refine WP.ld (sh := shV) (x := ((0 : Int), u, ())) (es := 1) (ti := true) (ro := false) (L := [vI 0, .slice u.a u.n u.c]) (by rw [upd_get, if_pos rfl]; rfl) (Nat.le_of_ble_eq_true rfl) rfl ?_
  refine WP.ret ⟨((0 : Int), u, ()), rfl, rfl, ?_, (g0.trans g12).upd (Nat.le_refl _) _⟩
  exact ((h2.grow g2).upd (show ¬ s0.c ≤ s.c by omega) _).mono fun b _ hb => by omega
end Go.Proofs.YtjlhclmgjdabfaaGreat
