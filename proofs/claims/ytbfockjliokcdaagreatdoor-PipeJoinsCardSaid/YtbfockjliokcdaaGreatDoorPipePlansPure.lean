/- Plain facts for the walk of refinerylaw24.PipePlans. -/
import Derived.Test.YtbfockjliokcdaaGreatDoorLawPlan
namespace Go.Proofs.YtbfockjliokcdaaGreatDoor
open Go.RowKit

def lastPh : Int → List Nat → Int
  | ph, [] => ph
  | _, j :: r => lastPh (lawOut j) r
theorem lastPh_snoc : ∀ (l : List Nat) (ph : Int) (j : Nat), lastPh ph (l ++ [j]) = lawOut j
  | [], _, _ => rfl
  | x :: l, ph, j => by simp [lastPh, lastPh_snoc l]
theorem idxGo_snoc : ∀ (l : List Nat) (ph : Int) (j : Nat), idxGo ph (l ++ [j]) = (idxGo ph l && lawIn j == lastPh ph l)
  | [], ph, j => by simp [idxGo, lastPh]
  | x :: l, ph, j => by simp [idxGo, lastPh, idxGo_snoc l, Bool.and_assoc]
theorem idxGo_app : ∀ (a b : List Nat) (ph : Int), idxGo ph (a ++ b) = (idxGo ph a && idxGo (lastPh ph a) b)
  | [], b, ph => by simp [idxGo, lastPh]
  | x :: a, b, ph => by simp [idxGo, lastPh, idxGo_app a, Bool.and_assoc]
theorem lastPh_01 : ∀ (l : List Nat) (ph : Int), (ph = 0 ∨ ph = 1) → (lastPh ph l = 0 ∨ lastPh ph l = 1)
  | [], _, h => h
  | j :: r, ph, _ => lastPh_01 r (lawOut j) (by unfold lawOut; split; exact .inr rfl; exact .inl rfl)

/-- What Plan makes of a text of the law's words. -/
theorem planText_idx {js : List Nat} (h : ∀ j ∈ js, j < 9) : planText (joinC (js.map lawNm)) = if 20 < js.length then .error 7 else if idxGo 0 js then .ok (js.map lawRow) else .error 11 := by
  rw [planText_join (by simp only [List.mem_map]; rintro x ⟨j, _, rfl⟩; exact lawNm_ne j) (by simp only [List.mem_map]; rintro x ⟨j, _, rfl⟩; exact lawNm_44 j)]
  by_cases he : js = []
  · subst he; rfl
  · rw [if_neg (by simpa using he)]
    unfold planWords
    rw [planGo_idx js [] 0 h, List.length_map, List.nil_append]

theorem lawGo_ok : ∀ (l : List Nat) (sg : Bool), idxGo (if sg then 1 else 0) (lawGo sg l) = true
  | [], _ => rfl
  | n :: r, sg => by
    have h1 : lawIn (lawNext sg n) = if sg then 1 else 0 := by
      unfold lawIn lawNext
      cases sg
      · have : ¬ 4 ≤ n % 4 := by omega
        simp [this]
      · simp
    have h2 : lawOut (lawNext sg n) = if lawSg sg (lawNext sg n) then 1 else 0 := by
      unfold lawOut lawSg lawNext
      cases sg
      · by_cases h : n % 4 = 3
        · simp [h]
        · have : ¬ 3 ≤ n % 4 := by omega
          simp [this, h]
      · by_cases h : n % 5 = 4
        · simp [h]
        · have h1 : 3 ≤ 4 + n % 5 ∧ 4 + n % 5 ≤ 7 := by omega
          simp [h1]; omega
    simp only [lawGo, idxGo, h1, beq_self_eq_true, Bool.true_and]
    rw [h2]
    exact lawGo_ok r _

/-- Plan(Plan(l)) is OK. -/
theorem planText_law (l : List Nat) : planText (lawText l) = .ok ((lawGo false (l.take 8)).map lawRow) := by
  unfold lawText
  rw [planText_idx (lawGo_lt _ _), if_neg (by rw [lawGo_length, List.length_take]; omega), if_pos (show idxGo 0 _ = true from lawGo_ok (l.take 8) false)]

theorem lawRow_cells (j : Nat) : passCells (lawRow j) = [.string (lawRow j).1, .int .u8 (lawRow j).2.1, .int .u8 (lawRow j).2.2.1, .func (.func (lawRow j).2.2.2) #[] #[]] := rfl

theorem flat_get {α : Type} (f : α → List Value) (hf : ∀ x, (f x).length = 4) : ∀ (l : List α) (i j : Nat) (x : α), l[i]? = some x → j < 4 → (l.flatMap f)[4 * i + j]? = (f x)[j]?
  | [], i, _, _, h, _ => by simp at h
  | y :: l, 0, j, x, h, hj => by
    simp at h; subst h
    rw [List.flatMap_cons, List.getElem?_append_left (by rw [hf]; omega)]
    simp
  | y :: l, i + 1, j, x, h, hj => by
    simp at h
    rw [List.flatMap_cons, List.getElem?_append_right (by rw [hf]; omega), hf]
    have := flat_get f hf l i j x h hj
    rw [show 4 * (i + 1) + j - 4 = 4 * i + j by omega]
    exact this

def pp9 (zs : List Nat) : List Nat := zs.map (· % 9)
theorem pp9_lt (zs : List Nat) : ∀ j ∈ pp9 zs, j < 9 := by
  simp only [pp9, List.mem_map]
  rintro j ⟨z, _, rfl⟩
  exact Nat.mod_lt _ (by decide)
theorem pp9_snoc {zs : List Nat} {k z : Nat} (hz : zs[k]? = some z) : pp9 (zs.take (k + 1)) = pp9 (zs.take k) ++ [z % 9] := by
  rw [take_snoc' hz]; simp [pp9]

theorem pp_text {zs : List Nat} {k z : Nat} {sb x : ByteArray} (hz : zs[k]? = some z) (HS : Hid (sb.data.toList = joinC ((pp9 (zs.take k)).map lawNm)))
    (hx : x.data.toList = lawNm (z % 9)) (h0 : 0 < k) : Hid ((sb ++ ⟨#[44]⟩ ++ x).data.toList = joinC ((pp9 (zs.take (k + 1))).map lawNm)) := by
  show _ = _
  rw [pp9_snoc hz, List.map_append, List.map_singleton, joinC_snoc, if_neg, ← HS.out, ← hx]
  · simp [ByteArray.data_append]
  · intro he
    have hl := congrArg List.length he
    obtain ⟨h, _⟩ := List.getElem?_eq_some_iff.1 hz
    rw [pp9, List.length_map, List.length_map, List.length_take, List.length_nil] at hl
    omega
theorem pp_text0 {zs : List Nat} {k z : Nat} {sb x : ByteArray} (hz : zs[k]? = some z) (HS : Hid (sb.data.toList = joinC ((pp9 (zs.take k)).map lawNm)))
    (hx : x.data.toList = lawNm (z % 9)) (h0 : k = 0) : Hid ((sb ++ x).data.toList = joinC ((pp9 (zs.take (k + 1))).map lawNm)) := by
  subst h0
  show _ = _
  have hs := HS.out
  simp only [List.take_zero, pp9, List.map_nil, joinC] at hs
  rw [pp9_snoc hz, List.map_append, List.map_singleton, joinC_snoc, if_pos (by simp [pp9])]
  simp [ByteArray.data_append, hs, hx]
theorem pp_ph {zs : List Nat} {k z : Nat} {b : Bool} (hz : zs[k]? = some z) (h : b = (lawOut (z % 9) == 1)) : Hid (b = (lastPh 0 (pp9 (zs.take (k + 1))) == 1)) := by
  show _ = _
  rw [pp9_snoc hz, lastPh_snoc, h]
theorem pp_want {zs : List Nat} {k z : Nat} {g g' b : Bool} (hz : zs[k]? = some z) (HG : Hid (g = idxGo 0 (pp9 (zs.take k)))) (Hb : Hid (b = (lastPh 0 (pp9 (zs.take k)) == 1)))
    (h : g' = (g && ((lawIn (z % 9) == 1) == b))) : Hid (g' = idxGo 0 (pp9 (zs.take (k + 1)))) := by
  show _ = _
  rw [pp9_snoc hz, idxGo_snoc, ← HG.out, h, Hb.out]
  have h1 : lawIn (z % 9) = 0 ∨ lawIn (z % 9) = 1 := by unfold lawIn; split; exact .inr rfl; exact .inl rfl
  rcases h1 with h1 | h1 <;> rcases lastPh_01 (pp9 (zs.take k)) 0 (.inl rfl) with h2 | h2 <;> simp [h1, h2]
end Go.Proofs.YtbfockjliokcdaaGreatDoor
