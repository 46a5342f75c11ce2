/- Contracts of the functions that look at views and jobs.
Conditions: none. -/
import Derived.Test.YtjlhclmgjdabfaaGreatD1
import Derived.Test.YtjlhclmgjdabfaaGreatFV0
import Derived.Test.YtjlhclmgjdabfaaGreatAxM
namespace Go.Proofs.YtjlhclmgjdabfaaGreat
set_option linter.unusedSimpArgs false
set_option linter.unusedSectionVars false
open Go Go.Ax
set_option linter.unusedVariables false
set_option maxRecDepth 100000

abbrev R16 (lf d f : Nat) (args : List Value) (sh : S3) (s : HS) (Q : sh.Sem → HS → Prop) : Prop := Runs env16 lf tbl16 d f args sh s Q
abbrev shI : S3 := .v (.one (.int .i64))
abbrev shB : S3 := .v (.one .bool)
abbrev vI (n : Int) : Value := .int .i64 n
abbrev sI : S2 := .one (.int .i64)
abbrev sB : S2 := .one .bool
abbrev sS : S2 := .one .slice
abbrev sM : S2 := .agg [.int .i64, .int .i64, .bool]

theorem r67 (lf : Nat) (a : Int) (s : HS) : R16 lf 1 67 [vI a] shB s fun x s' => x = (iLe 98 a && iLe a 256) ∧ s' = s := by
  refine Runs.of (fun call => d67 call lf a) (show env16.fn.get 67 = some Tryz.f67 by kernel_rfl) rfl (fun call => d67_eq call lf a) fun n hn => ?_
  refine WP.cond (fun h => ?_) (fun h => ?_)
  · exact WP.ret ⟨_, rfl, by rw [h]; rfl, rfl⟩
  · exact WP.ret ⟨false, rfl, by rw [h]; rfl, rfl⟩
theorem r30 (lf : Nat) (a b : Int) (s : HS) : R16 lf 2 30 [vI a, vI b] shB s fun x s' => x = ((iLe 98 b && iLe b 256) && (iLe 96 a && iLt a b)) ∧ s' = s := by
  refine Runs.of (fun call => d30 call lf a b) (show env16.fn.get 30 = some Tryz.f30 by kernel_rfl) rfl (fun call => d30_eq call lf a b) fun n hn => ?_
  refine WP.call (r67 lf b s) hn fun x s1 ⟨hx, hs⟩ => ?_
  subst hs
  refine WP.cond (fun h => WP.cond (fun h' => ?_) (fun h' => ?_)) (fun h => ?_)
  · exact WP.ret ⟨_, rfl, by rw [← hx, h, h']; rfl, rfl⟩
  · exact WP.ret ⟨false, rfl, by rw [← hx, h, h']; rfl, rfl⟩
  · exact WP.ret ⟨false, rfl, by rw [← hx, h]; rfl, rfl⟩
theorem r32 (lf : Nat) (a b : Int) (s : HS) : R16 lf 1 32 [vI a, vI b] shB s fun x s' => x = ((iLe 98 b && iLe b 256) && (iLe 96 a && iLt a b)) ∧ s' = s := by
  refine Runs.of (fun call => d32 call lf a b) (show env16.fn.get 32 = some Tryz.f32 by kernel_rfl) rfl (fun call => d32_eq call lf a b) fun n hn => ?_
  refine WP.cond (fun h => WP.cond (fun h' => WP.cond (fun h'' => ?_) (fun h'' => ?_)) (fun h' => ?_)) (fun h => ?_)
  · exact WP.ret ⟨_, rfl, by rw [h, h', h'']; rfl, rfl⟩
  · exact WP.ret ⟨false, rfl, by rw [h, h', h'']; rfl, rfl⟩
  · exact WP.ret ⟨false, rfl, by rw [h, h']; rfl, rfl⟩
  · exact WP.ret ⟨false, rfl, by rw [h]; rfl, rfl⟩
theorem r64 (lf : Nat) (a : Int) (s : HS) : R16 lf 1 64 [vI a] shB s fun x s' => x = (iLe 1 a && iLe a 5) ∧ s' = s := by
  refine Runs.of (fun call => d64 call lf a) (show env16.fn.get 64 = some Tryz.f64 by kernel_rfl) rfl (fun call => d64_eq call lf a) fun n hn => ?_
  refine WP.cond (fun h => ?_) (fun h => ?_)
  · exact WP.ret ⟨_, rfl, by rw [h]; rfl, rfl⟩
  · exact WP.ret ⟨false, rfl, by rw [h]; rfl, rfl⟩
theorem r66 (lf : Nat) (a b : Int) (c : Bool) (s : HS) : R16 lf 1 66 [.agg ⟨[vI a, vI b, .bool c]⟩] shB s fun x s' => x = c ∧ Grow s s' := by
  refine Runs.of (fun call => d66 call lf a b c) (show env16.fn.get 66 = some Tryz.f66 by kernel_rfl) rfl (fun call => d66_eq call lf a b c) fun n hn => ?_
  refine WP.new (WP.fld (WP.ld (push_at _ _) (Nat.le_of_ble_eq_true rfl) rfl ?_))
  exact WP.ret ⟨c, rfl, rfl, Grow.push _ _⟩

/-- A member. -/
abbrev Mem := Int × Int × Bool
theorem memC_len (m : Mem) : (memC m).length = 3 := rfl
abbrev HoldM (s : HS) (v : SV) (ms : List Mem) : Prop := Hold s v 3 (ms.flatMap memC)
abbrev HoldI (s : HS) (v : SV) (zs : List Int) : Prop := Hold s v 1 (zs.map vI)
theorem HoldM.n {s : HS} {v : SV} {ms : List Mem} (h : HoldM s v ms) : v.n = ms.length := by
  have := h.len
  rw [flat_len memC_len] at this
  omega
theorem HoldI.n {s : HS} {v : SV} {zs : List Int} (h : HoldI s v zs) : v.n = zs.length := by
  have := h.len
  rw [List.length_map] at this
  omega

/-- The first member that is full. -/
theorem r111 (lf : Nat) (hlf : 2000 ≤ lf) (v : SV) (ms : List Mem) (s : HS) (hm : ms.length ≤ 1100) (h : HoldM s v ms) :
    R16 lf 2 111 [.slice v.a v.n v.c, .func (.func 66) ⟨[]⟩ ⟨[]⟩] shI s fun x s' => (iLe 0 x = ms.any fun m => m.2.2) ∧ Grow s s' := by
  refine Runs.of (fun call => d111 call lf v (.func (.func 66) ⟨[]⟩ ⟨[]⟩)) (show env16.fn.get 111 = some Tryz.f111 by kernel_rfl) rfl (fun call => d111_eq call lf v _) fun n hn => ?_
  have hn' := HoldM.n h
  refine WP.loop ms.length (fun i x s' => x = ((i : Int), ()) ∧ Grow s s' ∧ ∀ j (hj : j < ms.length), j < i → ms[j].2.2 = false)
    (fun z s' => Grow s s' ∧ ((z = .inl () ∧ ms.any (fun m => m.2.2) = false) ∨ ∃ i : Nat, z = .inr ((i : Int), ()) ∧ ms.any (fun m => m.2.2) = true)) (by omega) ⟨rfl, Grow.refl s, fun j _ hj => by omega⟩ ?_ ?_
  · rintro i x s1 hi ⟨rfl, g, hf⟩
    refine WP.cond (fun hc => ?_) (fun hc => ?_)
    · have hi' : i < v.n := by rw [iLt_eq] at hc; have := of_decide_eq_true hc; exact Int.ofNat_lt.1 this
      have hil : i < ms.length := by omega
      refine WP.elem (sh := sM) (x := (ms[i].1, ms[i].2.1, ms[i].2.2, ())) (h.grow g) hi' rfl (by rw [flat_drop memC_len ms i hil]; rfl) fun p => ?_
      refine WP.call (r66 lf ms[i].1 ms[i].2.1 ms[i].2.2 s1) (by omega) fun b s2 ⟨hb, g2⟩ => ?_
      subst hb
      refine WP.cond (fun hb => WP.ret ⟨g.trans g2, .inr ⟨i, rfl, ?_⟩⟩) (fun hb => WP.ret ⟨by omega, ?_, g.trans g2, ?_⟩)
      · exact List.any_eq_true.2 ⟨ms[i], List.getElem_mem hil, hb⟩
      · rw [wrap_up (by omega)]
      · intro j hj hji
        by_cases e : j = i
        · subst e; exact hb
        · exact hf j hj (by omega)
    · refine WP.ret ⟨g, .inl ⟨rfl, ?_⟩⟩
      have hi' : i = ms.length := by rw [iLt_eq] at hc; have := of_decide_eq_false hc; have := mt Int.ofNat_lt.2 this; omega
      rw [List.any_eq_false]
      intro m hmem
      obtain ⟨j, hj, rfl⟩ := List.getElem_of_mem hmem
      rw [hf j hj (by omega)]; decide
  · rintro z s1 ⟨g, ⟨rfl, ha⟩ | ⟨i, rfl, ha⟩⟩
    · exact WP.ret ⟨(-1 : Int), rfl, by rw [ha]; rfl, g⟩
    · exact WP.ret ⟨(i : Int), rfl, by rw [ha]; rfl, g⟩
theorem r65 (lf : Nat) (hlf : 2000 ≤ lf) (v : SV) (ms : List Mem) (s : HS) (hm : ms.length ≤ 1100) (h : HoldM s v ms) :
    R16 lf 3 65 [.slice v.a v.n v.c, .func (.func 66) ⟨[]⟩ ⟨[]⟩] shB s fun x s' => x = (ms.any fun m => m.2.2) ∧ Grow s s' := by
  refine Runs.of (fun call => d65 call lf v (.func (.func 66) ⟨[]⟩ ⟨[]⟩)) (show env16.fn.get 65 = some Tryz.f65 by kernel_rfl) rfl (fun call => d65_eq call lf v _) fun n hn => ?_
  refine WP.call (r111 lf hlf v ms s hm h) hn fun x s1 ⟨hx, g⟩ => ?_
  exact WP.ret ⟨_, rfl, hx, g⟩
end Go.Proofs.YtjlhclmgjdabfaaGreat
