/- The walk of refinerylaw24.Plan: a text of passes out of small numbers. -/
import Derived.Test.YtbfockjliokcdaaGreatDoorPlanPure
import Derived.Test.YtbfockjliokcdaaGreatDoorAwake24
namespace Go.Proofs.YtbfockjliokcdaaGreatDoor
open Go.RowKit

def lawNext (sg : Bool) (n : Nat) : Nat := if sg then 4 + n % 5 else n % 4
def lawSg (sg : Bool) (j : Nat) : Bool := j != 8 && (sg || j == 3)
def lawGo : Bool → List Nat → List Nat
  | _, [] => []
  | sg, n :: r => lawNext sg n :: lawGo (lawSg sg (lawNext sg n)) r
def lawEnd : Bool → List Nat → Bool
  | sg, [] => sg
  | sg, n :: r => lawEnd (lawSg sg (lawNext sg n)) r
theorem lawGo_snoc : ∀ (l : List Nat) (sg : Bool) (n : Nat), lawGo sg (l ++ [n]) = lawGo sg l ++ [lawNext (lawEnd sg l) n]
  | [], _, _ => rfl
  | x :: l, sg, n => by simp [lawGo, lawEnd, lawGo_snoc l]
theorem lawEnd_snoc : ∀ (l : List Nat) (sg : Bool) (n : Nat), lawEnd sg (l ++ [n]) = lawSg (lawEnd sg l) (lawNext (lawEnd sg l) n)
  | [], _, _ => rfl
  | x :: l, sg, n => by simp [lawEnd, lawEnd_snoc l]
theorem lawNext_lt (sg : Bool) (n : Nat) : lawNext sg n < 9 := by unfold lawNext; split <;> omega
theorem lawGo_lt : ∀ (l : List Nat) (sg : Bool), ∀ j ∈ lawGo sg l, j < 9
  | [], _, j, h => by cases h
  | n :: r, sg, j, h => by
    rcases List.mem_cons.1 h with rfl | h
    · exact lawNext_lt _ _
    · exact lawGo_lt r _ j h
theorem lawGo_length : ∀ (l : List Nat) (sg : Bool), (lawGo sg l).length = l.length
  | [], _ => rfl
  | n :: r, sg => by simp [lawGo, lawGo_length r]
/-- The text of law24.Plan. -/
def lawText (l : List Nat) : List UInt8 := joinC ((lawGo false (l.take 8)).map lawNm)

/-- A slice of bytes that came in. -/
def IsBytes (w : World) (a : Option Addr) (len cap : Nat) (zs : List Nat) : Prop :=
  zs.length = len ∧ len ≤ cap ∧ (∀ z ∈ zs, z < 256) ∧ (len = 0 ∨ ∃ b o, a = some ⟨b, o, none⟩ ∧ b < w.heap.size ∧ ∀ (i z : Nat), zs[i]? = some z → w.cell? ⟨b, o + i, none⟩ = some (.int .u8 z))

/-- The law's table of names lies in memory. -/
def HasNames (w : World) : Prop := ∀ j, j < 9 → w.cell? ⟨0, j, none⟩ = some (.string ⟨(lawNm j).toArray⟩)

theorem take_snoc' {zs : List Nat} {k z : Nat} (hz : zs[k]? = some z) : zs.take (k + 1) = zs.take k ++ [z] := by
  obtain ⟨h, e⟩ := List.getElem?_eq_some_iff.1 hz
  rw [List.take_succ_eq_append_getElem h, e]

theorem law_text {zs : List Nat} {k z c : Nat} {b : Bool} {sb x : ByteArray} (hz : zs[k]? = some z) (HS : Hid (sb.data.toList = joinC ((lawGo false (zs.take k)).map lawNm))) (Hb : Hid (b = lawEnd false (zs.take k)))
    (hc : lawNext b z = c) (hx : x.data.toList = lawNm c) (h0 : 0 < k) : Hid ((sb ++ ⟨#[44]⟩ ++ x).data.toList = joinC ((lawGo false (zs.take (k + 1))).map lawNm)) := by
  show _ = _
  rw [take_snoc' hz, lawGo_snoc, ← Hb.out, hc, List.map_append, List.map_singleton, joinC_snoc, if_neg, ← HS.out, ← hx]
  · simp [ByteArray.data_append]
  · intro he
    have hl := congrArg List.length he
    obtain ⟨h, _⟩ := List.getElem?_eq_some_iff.1 hz
    rw [List.length_map, lawGo_length, List.length_take, List.length_nil] at hl
    omega

theorem law_text0 {zs : List Nat} {k z c : Nat} {b : Bool} {sb x : ByteArray} (hz : zs[k]? = some z) (HS : Hid (sb.data.toList = joinC ((lawGo false (zs.take k)).map lawNm))) (Hb : Hid (b = lawEnd false (zs.take k)))
    (hc : lawNext b z = c) (hx : x.data.toList = lawNm c) (h0 : k = 0) : Hid ((sb ++ x).data.toList = joinC ((lawGo false (zs.take (k + 1))).map lawNm)) := by
  subst h0
  show _ = _
  have hs := HS.out
  simp only [List.take_zero, lawGo, List.map_nil, joinC] at hs
  rw [take_snoc' hz, lawGo_snoc, ← Hb.out, hc, List.map_append, List.map_singleton, joinC_snoc, if_pos (by simp [lawGo])]
  simp [ByteArray.data_append, hs, hx]

theorem law_size {k : Nat} {sb x : ByteArray} (h : sb.size ≤ 6 * k) (hx : x.size ≤ 5) : (sb ++ ⟨#[44]⟩ ++ x).size ≤ 6 * (k + 1) := by
  have h1 : (⟨#[44]⟩ : ByteArray).size = 1 := rfl
  simp only [ByteArray.size_append, h1]; omega
theorem law_size0 {k : Nat} {sb x : ByteArray} (h : sb.size ≤ 6 * k) (hx : x.size ≤ 5) : (sb ++ x).size ≤ 6 * (k + 1) := by
  simp only [ByteArray.size_append]; omega

theorem law_single {zs : List Nat} {k z c : Nat} {b b' : Bool} (hz : zs[k]? = some z) (Hb : Hid (b = lawEnd false (zs.take k))) (hc : lawNext b z = c) (h : b' = lawSg b c) : Hid (b' = lawEnd false (zs.take (k + 1))) := by
  show _ = _
  rw [take_snoc' hz, lawEnd_snoc, ← Hb.out, hc, h]

set_option maxRecDepth 100000 in
set_option maxHeartbeats 4000000 in
theorem lawPlan_any (a : Option Addr) (len cap : Nat) (zs : List Nat) (w : World) (hz : IsBytes w a len cap zs) (hn : HasNames w) (hl : len ≤ maxLen) :
    Calls Tryz.prog 10 #[.slice a len cap] w fun e w' => (∃ s : ByteArray, e = .returned (.string s) ∧ s.data.toList = lawText zs) ∧ w = w' := by
  obtain ⟨hzl, hcap, hzb, hz⟩ := hz
  unfold maxLen at hl
  go_enter Tryz.func10, Tryz.ntmps10
  go_wp2
  have Hzl := Lib.hid hzl; clear hzl
  have Hz := Lib.hid hz; clear hz
  have Hn := Lib.hid hn; clear hn
  have Hzb := Lib.hid hzb; clear hzb
  go_loop [3, 4, 5, 6, 7, 10] (fun s sg _ _ _ i => ∃ k : Nat, k ≤ len ∧ k ≤ 8 ∧ i = .int .i64 k ∧ ∃ (sb : ByteArray) (b : Bool), sb.size ≤ 6 * k ∧ s = .string sb ∧ sg = .bool b ∧ Hid (sb.data.toList = joinC ((lawGo false (zs.take k)).map lawNm)) ∧ Hid (b = lawEnd false (zs.take k))) (fun _ _ _ _ _ i => len - (intOf i).toNat)
  case atStart => exact ⟨0, Nat.zero_le _, Nat.zero_le _, rfl, _, _, Nat.le_refl _, rfl, rfl, rfl, rfl⟩
  case round =>
    obtain ⟨k, hk, hk8, rfl, sb, b, hsb, rfl, rfl, HS, Hb⟩ := hrel
    by_cases hlt : k < len
    · by_cases h8 : k < 8
      · obtain ⟨z, hz⟩ : ∃ z, zs[k]? = some z := ⟨_, List.getElem?_eq_getElem (by rw [Hzl.out]; exact hlt)⟩
        rcases Hz.out with h0 | ⟨ab, ao, rfl, hab, hcell⟩
        · omega
        · have hc := hcell k z hz
          have hz256 := Hzb.out z (List.mem_of_getElem? hz)
          clear hcell
          have Hzz := Lib.hid hz; clear hz
          cases b
          · obtain ⟨c, hc4, e⟩ : ∃ c, c < 4 ∧ z % 4 = c := ⟨_, by omega, rfl⟩
            have hcn : w.cell? ⟨0, z % 4, none⟩ = some (.string ⟨(lawNm c).toArray⟩) := by rw [Hn.out _ (by omega), e]
            have He := Lib.hid e; clear e
            obtain rfl | rfl | rfl | rfl : c = 0 ∨ c = 1 ∨ c = 2 ∨ c = 3 := by omega
            all_goals
              simp only [lawNm] at hcn
              by_cases hk0 : 0 < k
              · go_wp2
                go_round
                case rel => exact ⟨k + 1, by omega, by omega, by go_num, _, _, law_size hsb (by decide), rfl, rfl, law_text Hzz.out HS Hb He.out rfl hk0, law_single Hzz.out Hb He.out rfl⟩
                case measure => simp [intOf]; omega
              · go_wp2
                go_round
                case rel => exact ⟨k + 1, by omega, by omega, by go_num, _, _, law_size0 hsb (by decide), rfl, rfl, law_text0 Hzz.out HS Hb He.out rfl (by omega), law_single Hzz.out Hb He.out rfl⟩
                case measure => simp [intOf]; omega
          · obtain ⟨c, hc5, e⟩ : ∃ c, c < 5 ∧ z % 5 = c := ⟨_, by omega, rfl⟩
            have hcn : w.cell? ⟨0, 4 + z % 5, none⟩ = some (.string ⟨(lawNm (4 + c)).toArray⟩) := by rw [Hn.out _ (by omega), e]
            have hcn0 : w.cell? ⟨0, z % 4, none⟩ = some (.string ⟨(lawNm (z % 4)).toArray⟩) := Hn.out _ (by omega)
            have He := Lib.hid (show lawNext true z = 4 + c by simp [lawNext, e]); clear e
            obtain rfl | rfl | rfl | rfl | rfl : c = 0 ∨ c = 1 ∨ c = 2 ∨ c = 3 ∨ c = 4 := by omega
            all_goals
              simp only [lawNm] at hcn
              by_cases hk0 : 0 < k
              · go_wp2
                go_round
                case rel => exact ⟨k + 1, by omega, by omega, by go_num, _, _, law_size hsb (by decide), rfl, rfl, law_text Hzz.out HS Hb He.out rfl hk0, law_single Hzz.out Hb He.out rfl⟩
                case measure => simp [intOf]; omega
              · go_wp2
                go_round
                case rel => exact ⟨k + 1, by omega, by omega, by go_num, _, _, law_size0 hsb (by decide), rfl, rfl, law_text0 Hzz.out HS Hb He.out rfl (by omega), law_single Hzz.out Hb He.out rfl⟩
                case measure => simp [intOf]; omega
      · obtain rfl : k = 8 := by omega
        obtain ⟨z, hz⟩ : ∃ z, zs[8]? = some z := ⟨_, List.getElem?_eq_getElem (by rw [Hzl.out]; exact hlt)⟩
        rcases Hz.out with h0 | ⟨ab, ao, rfl, hab, hcell⟩
        · omega
        · have hc := hcell 8 z hz
          clear hcell hz
          go_wp2
          go_ret
          exact ⟨⟨_, rfl, HS.out⟩, rfl⟩
    · obtain rfl : k = len := by omega
      go_wp2
      go_ret
      have e : zs.take 8 = zs.take k := by rw [List.take_of_length_le (by rw [Hzl.out]; exact hk8), List.take_of_length_le (by rw [Hzl.out]; exact Nat.le_refl _)]
      exact ⟨⟨_, rfl, by unfold lawText; rw [e]; exact HS.out⟩, rfl⟩
end Go.Proofs.YtbfockjliokcdaaGreatDoor
