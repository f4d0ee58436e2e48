/- The walk of pipe.find: the row of passes that bears a name, or none. -/
import Derived.Test.YtbfockjliokcdaaGreatDoorPlanTab
import Derived.LoopTactic
import Derived.Outline
import Derived.Lib.Hide
import Derived.Laws.EntriesVeiled
import Derived.Lib.Strings
namespace Go.Proofs.YtbfockjliokcdaaGreatDoor
open Go.RowKit

/-- What pipe.find answers. -/
def findVal (l : List UInt8) : Value :=
  match passRows.find? (fun x => x.1.data.toList == l) with
  | some x => .tuple #[.agg (passCells x).toArray, .bool true]
  | none => .tuple #[.agg noPass.toArray, .bool false]

def passName (j : Nat) : List UInt8 := ((passRows[j]?).map (·.1.data.toList)).getD []

theorem passName_0 : passName 0 = [115, 108, 111, 116, 115] := rfl
theorem passName_1 : passName 1 = [115, 115, 97] := rfl
theorem passName_2 : passName 2 = [102, 111, 108, 100] := rfl
theorem passName_3 : passName 3 = [115, 104, 97, 114, 101] := rfl
theorem passName_4 : passName 4 = [104, 111, 105, 115, 116] := rfl
theorem passName_5 : passName 5 = [115, 119, 101, 101, 112] := rfl
theorem passName_6 : passName 6 = [108, 101, 97, 118, 101] := rfl
theorem passName_7 : passName 7 = [109, 101, 114, 103, 101] := rfl
theorem passName_8 : passName 8 = [114, 101, 97, 99, 104] := rfl

theorem find_none {l : List UInt8} (h : ∀ j, j < 9 → (passName j == l) = false) : findVal l = .tuple #[.agg noPass.toArray, .bool false] := by
  have h0 := h 0 (by omega)
  have h1 := h 1 (by omega)
  have h2 := h 2 (by omega)
  have h3 := h 3 (by omega)
  have h4 := h 4 (by omega)
  have h5 := h 5 (by omega)
  have h6 := h 6 (by omega)
  have h7 := h 7 (by omega)
  have h8 := h 8 (by omega)
  simp only [passName_0, passName_1, passName_2, passName_3, passName_4, passName_5, passName_6, passName_7, passName_8] at h0 h1 h2 h3 h4 h5 h6 h7 h8
  simp only [findVal, passRows, List.find?_cons, h0, h1, h2, h3, h4, h5, h6, h7, h8, List.find?_nil]
theorem find_at_0 {l : List UInt8} (_h : ∀ j, j < 0 → (passName j == l) = false) (hk : ([115, 108, 111, 116, 115] == l) = true) : findVal l = .tuple #[.agg (passCells (passRows[0]?.getD (⟨#[]⟩, 0, 0, 0))).toArray, .bool true] := by
  simp only [findVal, passRows, List.find?_cons, hk]
  rfl
theorem find_at_1 {l : List UInt8} (h : ∀ j, j < 1 → (passName j == l) = false) (hk : ([115, 115, 97] == l) = true) : findVal l = .tuple #[.agg (passCells (passRows[1]?.getD (⟨#[]⟩, 0, 0, 0))).toArray, .bool true] := by
  have h0 := h 0 (by omega)
  simp only [passName_0] at h0
  simp only [findVal, passRows, List.find?_cons, h0, hk]
  rfl
theorem find_at_2 {l : List UInt8} (h : ∀ j, j < 2 → (passName j == l) = false) (hk : ([102, 111, 108, 100] == l) = true) : findVal l = .tuple #[.agg (passCells (passRows[2]?.getD (⟨#[]⟩, 0, 0, 0))).toArray, .bool true] := by
  have h0 := h 0 (by omega)
  have h1 := h 1 (by omega)
  simp only [passName_0, passName_1] at h0 h1
  simp only [findVal, passRows, List.find?_cons, h0, h1, hk]
  rfl
theorem find_at_3 {l : List UInt8} (h : ∀ j, j < 3 → (passName j == l) = false) (hk : ([115, 104, 97, 114, 101] == l) = true) : findVal l = .tuple #[.agg (passCells (passRows[3]?.getD (⟨#[]⟩, 0, 0, 0))).toArray, .bool true] := by
  have h0 := h 0 (by omega)
  have h1 := h 1 (by omega)
  have h2 := h 2 (by omega)
  simp only [passName_0, passName_1, passName_2] at h0 h1 h2
  simp only [findVal, passRows, List.find?_cons, h0, h1, h2, hk]
  rfl
theorem find_at_4 {l : List UInt8} (h : ∀ j, j < 4 → (passName j == l) = false) (hk : ([104, 111, 105, 115, 116] == l) = true) : findVal l = .tuple #[.agg (passCells (passRows[4]?.getD (⟨#[]⟩, 0, 0, 0))).toArray, .bool true] := by
  have h0 := h 0 (by omega)
  have h1 := h 1 (by omega)
  have h2 := h 2 (by omega)
  have h3 := h 3 (by omega)
  simp only [passName_0, passName_1, passName_2, passName_3] at h0 h1 h2 h3
  simp only [findVal, passRows, List.find?_cons, h0, h1, h2, h3, hk]
  rfl
theorem find_at_5 {l : List UInt8} (h : ∀ j, j < 5 → (passName j == l) = false) (hk : ([115, 119, 101, 101, 112] == l) = true) : findVal l = .tuple #[.agg (passCells (passRows[5]?.getD (⟨#[]⟩, 0, 0, 0))).toArray, .bool true] := by
  have h0 := h 0 (by omega)
  have h1 := h 1 (by omega)
  have h2 := h 2 (by omega)
  have h3 := h 3 (by omega)
  have h4 := h 4 (by omega)
  simp only [passName_0, passName_1, passName_2, passName_3, passName_4] at h0 h1 h2 h3 h4
  simp only [findVal, passRows, List.find?_cons, h0, h1, h2, h3, h4, hk]
  rfl
theorem find_at_6 {l : List UInt8} (h : ∀ j, j < 6 → (passName j == l) = false) (hk : ([108, 101, 97, 118, 101] == l) = true) : findVal l = .tuple #[.agg (passCells (passRows[6]?.getD (⟨#[]⟩, 0, 0, 0))).toArray, .bool true] := by
  have h0 := h 0 (by omega)
  have h1 := h 1 (by omega)
  have h2 := h 2 (by omega)
  have h3 := h 3 (by omega)
  have h4 := h 4 (by omega)
  have h5 := h 5 (by omega)
  simp only [passName_0, passName_1, passName_2, passName_3, passName_4, passName_5] at h0 h1 h2 h3 h4 h5
  simp only [findVal, passRows, List.find?_cons, h0, h1, h2, h3, h4, h5, hk]
  rfl
theorem find_at_7 {l : List UInt8} (h : ∀ j, j < 7 → (passName j == l) = false) (hk : ([109, 101, 114, 103, 101] == l) = true) : findVal l = .tuple #[.agg (passCells (passRows[7]?.getD (⟨#[]⟩, 0, 0, 0))).toArray, .bool true] := by
  have h0 := h 0 (by omega)
  have h1 := h 1 (by omega)
  have h2 := h 2 (by omega)
  have h3 := h 3 (by omega)
  have h4 := h 4 (by omega)
  have h5 := h 5 (by omega)
  have h6 := h 6 (by omega)
  simp only [passName_0, passName_1, passName_2, passName_3, passName_4, passName_5, passName_6] at h0 h1 h2 h3 h4 h5 h6
  simp only [findVal, passRows, List.find?_cons, h0, h1, h2, h3, h4, h5, h6, hk]
  rfl
theorem find_at_8 {l : List UInt8} (h : ∀ j, j < 8 → (passName j == l) = false) (hk : ([114, 101, 97, 99, 104] == l) = true) : findVal l = .tuple #[.agg (passCells (passRows[8]?.getD (⟨#[]⟩, 0, 0, 0))).toArray, .bool true] := by
  have h0 := h 0 (by omega)
  have h1 := h 1 (by omega)
  have h2 := h 2 (by omega)
  have h3 := h 3 (by omega)
  have h4 := h 4 (by omega)
  have h5 := h 5 (by omega)
  have h6 := h 6 (by omega)
  have h7 := h 7 (by omega)
  simp only [passName_0, passName_1, passName_2, passName_3, passName_4, passName_5, passName_6, passName_7] at h0 h1 h2 h3 h4 h5 h6 h7
  simp only [findVal, passRows, List.find?_cons, h0, h1, h2, h3, h4, h5, h6, h7, hk]
  rfl

set_option maxHeartbeats 2000000 in
theorem find_any (s : ByteArray) (w : World) :
    Calls Tryz.prog 23 #[.string s] w fun e w' => e = .returned (findVal s.toList) ∧ Below w.heap.size w w' := by
  go_enter Tryz.func23, Tryz.ntmps23
  go_wp2_with (go_at_call 50; refine (passes_any _).mono ?_; rintro e w' ⟨rfl, rfl⟩)
  obtain ⟨W1, hW1⟩ : ∃ W1, (w.alloc (.cells #[.string ⟨#[]⟩, .int .u8 0, .int .u8 0, .nilFunc] 32)).alloc (.cells (passRows.flatMap passCells).toArray 32) = W1 := ⟨_, rfl⟩
  rw [hW1]
  have hz : W1.heap.size = w.heap.size + 2 := by rw [← hW1]; simp
  have hB0 : Below w.heap.size w W1 := by rw [← hW1]; exact ((Below.refl _ _).alloc (Nat.le_refl _) _).alloc (by simp) _
  have HW1 := Lib.hid hW1; clear hW1
  go_loopw [3, 5, 8] (fun _ _ i wr => ∃ k : Nat, k ≤ 9 ∧ i = .int .i64 k ∧ (∀ j, j < k → (passName j == s.toList) = false) ∧ Below (w.heap.size + 2) W1 wr) (fun _ _ i _ => 9 - (intOf i).toNat)
  case atStart => exact ⟨0, by omega, rfl, fun j h => by omega, Below.refl _ _⟩
  case round =>
    obtain ⟨k, hk, rfl, hno, hB⟩ := hrel
    have hc : ∀ j, wr.cell? ⟨w.heap.size + 1, j, none⟩ = (passRows.flatMap passCells)[j]? := by
      intro j
      rw [hB.cell (by simp), ← HW1.out]
      rw [World.cell?_alloc_at _ _ _ _ (by simp)]; simp
    have hd : ∀ j, wr.cell? ⟨w.heap.size, j, none⟩ = noPass[j]? := by
      intro j
      rw [hB.cell (by simp), ← HW1.out]
      rw [World.cell?_alloc_past _ _ _ (by simp), World.cell?_alloc_at _ _ _ _ rfl]; simp [noPass]; rfl
    have hf : ∀ j, wr.frozen? ⟨w.heap.size, j, none⟩ = false := by
      intro j
      rw [hB.frozen (by simp), ← HW1.out]
      rw [World.frozen?_alloc_past _ _ _ (by simp), World.frozen?_alloc_at _ _ _ _ rfl]
    have hsz := hB.size
    rw [hz] at hsz
    have hlt : w.heap.size < wr.heap.size := by omega
    have d0 := hd 0
    have d1 := hd 1
    have d2 := hd 2
    have d3 := hd 3
    simp only [noPass, List.getElem?_cons_zero, List.getElem?_cons_succ] at d0 d1 d2 d3
    have f0 := hf 0
    have f1 := hf 1
    have f2 := hf 2
    have f3 := hf 3
    have HB0 := Lib.hid hB0; clear hB0
    have Hno := Lib.hid hno; clear hno
    clear hd hf
    obtain rfl | rfl | rfl | rfl | rfl | rfl | rfl | rfl | rfl | rfl : k = 9 ∨ k = 0 ∨ k = 1 ∨ k = 2 ∨ k = 3 ∨ k = 4 ∨ k = 5 ∨ k = 6 ∨ k = 7 ∨ k = 8 := by omega
    · clear hc
      have hv := find_none Hno.out
      have Hv := Lib.hid hv; clear hv
      go_wp2
      refine bodyPost_ret (v := .tuple #[.agg noPass.toArray, .bool false]) (by simp [results, Tryz.results23, go_sem, d0, d1, d2, d3, noPass]; rfl) rfl ⟨by rw [Hv.out], ?_⟩
      exact (((((HB0.out.trans (hB.mono (by omega))).setCell (Nat.le_refl _) _).setCell (Nat.le_refl _) _).setCell (Nat.le_refl _) _).setCell (Nat.le_refl _) _)
    · have c0 := hc 0
      have c1 := hc 1
      have c2 := hc 2
      have c3 := hc 3
      simp only [passRows, passCells, List.flatMap_cons, List.cons_append, List.nil_append, List.getElem?_cons_zero, List.getElem?_cons_succ] at c0 c1 c2 c3
      clear hc
      by_cases hs : ([115, 108, 111, 116, 115] == s.toList) = true
      · have hv := find_at_0 Hno.out hs
        have Hv := Lib.hid hv; clear hv
        go_wp2
        refine bodyPost_ret (v := .tuple #[.agg (passCells (passRows[0]?.getD (⟨#[]⟩, 0, 0, 0))).toArray, .bool true]) (by simp [results, Tryz.results23, go_sem, hlt, d0, d1, d2, d3]; rfl) rfl ⟨by rw [Hv.out], ?_⟩
        exact ((((((HB0.out.trans (hB.mono (by omega))).setCell (Nat.le_refl _) _).setCell (Nat.le_refl _) _).setCell (Nat.le_refl _) _).setCell (Nat.le_refl _) _)).alloc (by simp; omega) _
      · simp only [Bool.not_eq_true] at hs
        go_wp2
        go_roundw
        case rel => exact ⟨1, by omega, by go_num, fun j hj => (Nat.lt_succ_iff_lt_or_eq.1 hj).elim (fun h => Hno.out j h) (fun h => by subst h; exact hs), hB.alloc (by omega) _⟩
        case measure => simp [intOf]
    · have c0 := hc 4
      have c1 := hc 5
      have c2 := hc 6
      have c3 := hc 7
      simp only [passRows, passCells, List.flatMap_cons, List.cons_append, List.nil_append, List.getElem?_cons_zero, List.getElem?_cons_succ] at c0 c1 c2 c3
      clear hc
      by_cases hs : ([115, 115, 97] == s.toList) = true
      · have hv := find_at_1 Hno.out hs
        have Hv := Lib.hid hv; clear hv
        go_wp2
        refine bodyPost_ret (v := .tuple #[.agg (passCells (passRows[1]?.getD (⟨#[]⟩, 0, 0, 0))).toArray, .bool true]) (by simp [results, Tryz.results23, go_sem, hlt, d0, d1, d2, d3]; rfl) rfl ⟨by rw [Hv.out], ?_⟩
        exact ((((((HB0.out.trans (hB.mono (by omega))).setCell (Nat.le_refl _) _).setCell (Nat.le_refl _) _).setCell (Nat.le_refl _) _).setCell (Nat.le_refl _) _)).alloc (by simp; omega) _
      · simp only [Bool.not_eq_true] at hs
        go_wp2
        go_roundw
        case rel => exact ⟨2, by omega, by go_num, fun j hj => (Nat.lt_succ_iff_lt_or_eq.1 hj).elim (fun h => Hno.out j h) (fun h => by subst h; exact hs), hB.alloc (by omega) _⟩
        case measure => simp [intOf]
    · have c0 := hc 8
      have c1 := hc 9
      have c2 := hc 10
      have c3 := hc 11
      simp only [passRows, passCells, List.flatMap_cons, List.cons_append, List.nil_append, List.getElem?_cons_zero, List.getElem?_cons_succ] at c0 c1 c2 c3
      clear hc
      by_cases hs : ([102, 111, 108, 100] == s.toList) = true
      · have hv := find_at_2 Hno.out hs
        have Hv := Lib.hid hv; clear hv
        go_wp2
        refine bodyPost_ret (v := .tuple #[.agg (passCells (passRows[2]?.getD (⟨#[]⟩, 0, 0, 0))).toArray, .bool true]) (by simp [results, Tryz.results23, go_sem, hlt, d0, d1, d2, d3]; rfl) rfl ⟨by rw [Hv.out], ?_⟩
        exact ((((((HB0.out.trans (hB.mono (by omega))).setCell (Nat.le_refl _) _).setCell (Nat.le_refl _) _).setCell (Nat.le_refl _) _).setCell (Nat.le_refl _) _)).alloc (by simp; omega) _
      · simp only [Bool.not_eq_true] at hs
        go_wp2
        go_roundw
        case rel => exact ⟨3, by omega, by go_num, fun j hj => (Nat.lt_succ_iff_lt_or_eq.1 hj).elim (fun h => Hno.out j h) (fun h => by subst h; exact hs), hB.alloc (by omega) _⟩
        case measure => simp [intOf]
    · have c0 := hc 12
      have c1 := hc 13
      have c2 := hc 14
      have c3 := hc 15
      simp only [passRows, passCells, List.flatMap_cons, List.cons_append, List.nil_append, List.getElem?_cons_zero, List.getElem?_cons_succ] at c0 c1 c2 c3
      clear hc
      by_cases hs : ([115, 104, 97, 114, 101] == s.toList) = true
      · have hv := find_at_3 Hno.out hs
        have Hv := Lib.hid hv; clear hv
        go_wp2
        refine bodyPost_ret (v := .tuple #[.agg (passCells (passRows[3]?.getD (⟨#[]⟩, 0, 0, 0))).toArray, .bool true]) (by simp [results, Tryz.results23, go_sem, hlt, d0, d1, d2, d3]; rfl) rfl ⟨by rw [Hv.out], ?_⟩
        exact ((((((HB0.out.trans (hB.mono (by omega))).setCell (Nat.le_refl _) _).setCell (Nat.le_refl _) _).setCell (Nat.le_refl _) _).setCell (Nat.le_refl _) _)).alloc (by simp; omega) _
      · simp only [Bool.not_eq_true] at hs
        go_wp2
        go_roundw
        case rel => exact ⟨4, by omega, by go_num, fun j hj => (Nat.lt_succ_iff_lt_or_eq.1 hj).elim (fun h => Hno.out j h) (fun h => by subst h; exact hs), hB.alloc (by omega) _⟩
        case measure => simp [intOf]
    · have c0 := hc 16
      have c1 := hc 17
      have c2 := hc 18
      have c3 := hc 19
      simp only [passRows, passCells, List.flatMap_cons, List.cons_append, List.nil_append, List.getElem?_cons_zero, List.getElem?_cons_succ] at c0 c1 c2 c3
      clear hc
      by_cases hs : ([104, 111, 105, 115, 116] == s.toList) = true
      · have hv := find_at_4 Hno.out hs
        have Hv := Lib.hid hv; clear hv
        go_wp2
        refine bodyPost_ret (v := .tuple #[.agg (passCells (passRows[4]?.getD (⟨#[]⟩, 0, 0, 0))).toArray, .bool true]) (by simp [results, Tryz.results23, go_sem, hlt, d0, d1, d2, d3]; rfl) rfl ⟨by rw [Hv.out], ?_⟩
        exact ((((((HB0.out.trans (hB.mono (by omega))).setCell (Nat.le_refl _) _).setCell (Nat.le_refl _) _).setCell (Nat.le_refl _) _).setCell (Nat.le_refl _) _)).alloc (by simp; omega) _
      · simp only [Bool.not_eq_true] at hs
        go_wp2
        go_roundw
        case rel => exact ⟨5, by omega, by go_num, fun j hj => (Nat.lt_succ_iff_lt_or_eq.1 hj).elim (fun h => Hno.out j h) (fun h => by subst h; exact hs), hB.alloc (by omega) _⟩
        case measure => simp [intOf]
    · have c0 := hc 20
      have c1 := hc 21
      have c2 := hc 22
      have c3 := hc 23
      simp only [passRows, passCells, List.flatMap_cons, List.cons_append, List.nil_append, List.getElem?_cons_zero, List.getElem?_cons_succ] at c0 c1 c2 c3
      clear hc
      by_cases hs : ([115, 119, 101, 101, 112] == s.toList) = true
      · have hv := find_at_5 Hno.out hs
        have Hv := Lib.hid hv; clear hv
        go_wp2
        refine bodyPost_ret (v := .tuple #[.agg (passCells (passRows[5]?.getD (⟨#[]⟩, 0, 0, 0))).toArray, .bool true]) (by simp [results, Tryz.results23, go_sem, hlt, d0, d1, d2, d3]; rfl) rfl ⟨by rw [Hv.out], ?_⟩
        exact ((((((HB0.out.trans (hB.mono (by omega))).setCell (Nat.le_refl _) _).setCell (Nat.le_refl _) _).setCell (Nat.le_refl _) _).setCell (Nat.le_refl _) _)).alloc (by simp; omega) _
      · simp only [Bool.not_eq_true] at hs
        go_wp2
        go_roundw
        case rel => exact ⟨6, by omega, by go_num, fun j hj => (Nat.lt_succ_iff_lt_or_eq.1 hj).elim (fun h => Hno.out j h) (fun h => by subst h; exact hs), hB.alloc (by omega) _⟩
        case measure => simp [intOf]
    · have c0 := hc 24
      have c1 := hc 25
      have c2 := hc 26
      have c3 := hc 27
      simp only [passRows, passCells, List.flatMap_cons, List.cons_append, List.nil_append, List.getElem?_cons_zero, List.getElem?_cons_succ] at c0 c1 c2 c3
      clear hc
      by_cases hs : ([108, 101, 97, 118, 101] == s.toList) = true
      · have hv := find_at_6 Hno.out hs
        have Hv := Lib.hid hv; clear hv
        go_wp2
        refine bodyPost_ret (v := .tuple #[.agg (passCells (passRows[6]?.getD (⟨#[]⟩, 0, 0, 0))).toArray, .bool true]) (by simp [results, Tryz.results23, go_sem, hlt, d0, d1, d2, d3]; rfl) rfl ⟨by rw [Hv.out], ?_⟩
        exact ((((((HB0.out.trans (hB.mono (by omega))).setCell (Nat.le_refl _) _).setCell (Nat.le_refl _) _).setCell (Nat.le_refl _) _).setCell (Nat.le_refl _) _)).alloc (by simp; omega) _
      · simp only [Bool.not_eq_true] at hs
        go_wp2
        go_roundw
        case rel => exact ⟨7, by omega, by go_num, fun j hj => (Nat.lt_succ_iff_lt_or_eq.1 hj).elim (fun h => Hno.out j h) (fun h => by subst h; exact hs), hB.alloc (by omega) _⟩
        case measure => simp [intOf]
    · have c0 := hc 28
      have c1 := hc 29
      have c2 := hc 30
      have c3 := hc 31
      simp only [passRows, passCells, List.flatMap_cons, List.cons_append, List.nil_append, List.getElem?_cons_zero, List.getElem?_cons_succ] at c0 c1 c2 c3
      clear hc
      by_cases hs : ([109, 101, 114, 103, 101] == s.toList) = true
      · have hv := find_at_7 Hno.out hs
        have Hv := Lib.hid hv; clear hv
        go_wp2
        refine bodyPost_ret (v := .tuple #[.agg (passCells (passRows[7]?.getD (⟨#[]⟩, 0, 0, 0))).toArray, .bool true]) (by simp [results, Tryz.results23, go_sem, hlt, d0, d1, d2, d3]; rfl) rfl ⟨by rw [Hv.out], ?_⟩
        exact ((((((HB0.out.trans (hB.mono (by omega))).setCell (Nat.le_refl _) _).setCell (Nat.le_refl _) _).setCell (Nat.le_refl _) _).setCell (Nat.le_refl _) _)).alloc (by simp; omega) _
      · simp only [Bool.not_eq_true] at hs
        go_wp2
        go_roundw
        case rel => exact ⟨8, by omega, by go_num, fun j hj => (Nat.lt_succ_iff_lt_or_eq.1 hj).elim (fun h => Hno.out j h) (fun h => by subst h; exact hs), hB.alloc (by omega) _⟩
        case measure => simp [intOf]
    · have c0 := hc 32
      have c1 := hc 33
      have c2 := hc 34
      have c3 := hc 35
      simp only [passRows, passCells, List.flatMap_cons, List.cons_append, List.nil_append, List.getElem?_cons_zero, List.getElem?_cons_succ] at c0 c1 c2 c3
      clear hc
      by_cases hs : ([114, 101, 97, 99, 104] == s.toList) = true
      · have hv := find_at_8 Hno.out hs
        have Hv := Lib.hid hv; clear hv
        go_wp2
        refine bodyPost_ret (v := .tuple #[.agg (passCells (passRows[8]?.getD (⟨#[]⟩, 0, 0, 0))).toArray, .bool true]) (by simp [results, Tryz.results23, go_sem, hlt, d0, d1, d2, d3]; rfl) rfl ⟨by rw [Hv.out], ?_⟩
        exact ((((((HB0.out.trans (hB.mono (by omega))).setCell (Nat.le_refl _) _).setCell (Nat.le_refl _) _).setCell (Nat.le_refl _) _).setCell (Nat.le_refl _) _)).alloc (by simp; omega) _
      · simp only [Bool.not_eq_true] at hs
        go_wp2
        go_roundw
        case rel => exact ⟨9, by omega, by go_num, fun j hj => (Nat.lt_succ_iff_lt_or_eq.1 hj).elim (fun h => Hno.out j h) (fun h => by subst h; exact hs), hB.alloc (by omega) _⟩
        case measure => simp [intOf]
end Go.Proofs.YtbfockjliokcdaaGreatDoor
