/- The walk of refinerylaw24.Awake. -/
import Derived.Test.YtbfockjliokcdaaGreatDoorPlan
namespace Go.Proofs.YtbfockjliokcdaaGreatDoor
open Go.RowKit

theorem plan_fold : planText [102, 111, 108, 100] = .error 11 := by kernel_rfl
def rows_ssa_fold : List PassRow := [(⟨#[115, 115, 97]⟩, 0, 1, 82), (⟨#[102, 111, 108, 100]⟩, 1, 1, 83)]
theorem plan_ssa_fold : planText [115, 115, 97, 44, 102, 111, 108, 100] = .ok rows_ssa_fold := by kernel_rfl

/-- An owned row that is not empty: where it lies. -/
theorem ownsRow_at {w : World} {B : Nat} {e : TypeId} {size : Nat} {v : Value} {n : Nat} {xs : List Value} (h : w.ownsRow B e size v n xs) (hn : 0 < n) :
    ∃ g cap, v = .slice (some ⟨g, 0, none⟩) n cap ∧ B ≤ g ∧ g < w.heap.size ∧ n ≤ cap ∧ ∀ j u, xs[j]? = some u → w.cell? ⟨g, j, none⟩ = some u := by
  obtain ⟨h1, h2⟩ := id h
  rcases h2 with ⟨_, h0⟩ | ⟨g, cap, cur, rfl, hg, hh, hc, _⟩
  · omega
  · refine ⟨g, cap, rfl, hg, (Array.getElem?_eq_some_iff.1 hh).1, hc, fun j u hu => ?_⟩
    have := h.cells (g := g) rfl j u hu
    have hadd : (⟨g, 0, none⟩ : Addr).add j = ⟨g, j, none⟩ := by unfold Addr.add; split <;> simp_all
    rwa [hadd] at this

theorem neq_func_nil (f : Nat) (w : World) : Sem.run Tryz.prog (binOp BinOp.neq 30 (.func (.func f) #[] #[]) .nilFunc) w = .ok (.bool true) w := by kernel_rfl
theorem eql_func_nil (f : Nat) (w : World) : Sem.run Tryz.prog (binOp BinOp.eql 30 (.func (.func f) #[] #[]) .nilFunc) w = .ok (.bool false) w := by kernel_rfl

set_option maxRecDepth 100000 in
set_option maxHeartbeats 1000000 in
theorem awake24_any (m : Int) (w : World) (hm : w.cell? ⟨2, 0, none⟩ = some (.int .i64 m)) (hb : 2 < w.heap.size) :
    Calls Tryz.prog 8 #[] w fun e w' => e = .returned (.bool true) ∧ Below w.heap.size w w' := by
  go_enter Tryz.func8, Tryz.ntmps8
  go_wp2_with fail
  refine (plan_any ⟨#[102, 111, 108, 100]⟩ m w (by decide) hm).mono ?_
  rintro e w1 ⟨h1, hb1⟩
  rw [show planText _ = _ from plan_fold] at h1
  obtain rfl : e = _ := h1
  have hm1 := (hb1.cell (p := ⟨2, 0, none⟩) hb).trans hm
  clear hm
  go_wp2_with fail
  refine (plan_any ⟨#[115, 115, 97, 44, 102, 111, 108, 100]⟩ m w1 (by decide) hm1).mono ?_
  rintro e w2 ⟨h2, hb2⟩
  rw [show planText _ = _ from plan_ssa_fold] at h2
  obtain ⟨v, rfl, hown⟩ : ∃ v, e = .returned (.tuple #[v, .int .i64 0]) ∧ w2.ownsRow w1.heap.size 32 4 v 2 (rows_ssa_fold.flatMap passCells) := h2
  obtain ⟨g, cap, rfl, hg, hgz, hcap, hc⟩ := ownsRow_at hown (by decide)
  have c4 := hc 4 _ rfl
  have c7 := hc 7 _ rfl
  clear hc hown hm1
  have hq := neq_func_nil
  go_wp2
  go_ret
  exact ⟨rfl, hb1.trans (hb2.mono hb1.size)⟩
end Go.Proofs.YtbfockjliokcdaaGreatDoor
