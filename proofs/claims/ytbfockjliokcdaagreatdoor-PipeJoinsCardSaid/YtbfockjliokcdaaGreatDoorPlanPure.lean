/- Plain facts on texts of words with commas between, and on pipe.Plan's answer at them. -/
import Derived.Test.YtbfockjliokcdaaGreatDoorPlan
namespace Go.Proofs.YtbfockjliokcdaaGreatDoor

/-- A text, cut at its commas. -/
def cut1 : List UInt8 → List (List UInt8)
  | [] => [[]]
  | b :: l => if b = 44 then [] :: cut1 l else match cut1 l with
    | [] => [[b]]
    | x :: r => (b :: x) :: r

theorem cut1_ne (l : List UInt8) : cut1 l ≠ [] := by
  cases l with
  | nil => simp [cut1]
  | cons b l =>
    unfold cut1
    split
    · simp
    · split <;> simp

open Go.Lib in
theorem split_cut : ∀ s : List UInt8, Lib.split s [44] = cut1 s
  | [] => by
    have h : Lib.count ([] : List UInt8) [44] = 0 := by rw [count_one]; rfl
    simp [Lib.split, h, splitK, cut1]
  | b :: l => by
    have ih := split_cut l
    unfold Lib.split at ih ⊢
    by_cases hb : b = 44
    · subst hb
      rw [count_cons_eq, Nat.add_comm]
      have hix : index (44 :: l) [44] = 0 := by rw [index]; simp [List.isPrefixOf]
      unfold splitK
      rw [hix]
      simp [cut1, ih]
    · rw [count_cons_ne b 44 l hb]
      have hp : ([44] : List UInt8).isPrefixOf (b :: l) = false := by simp [List.isPrefixOf, Ne.symm hb]
      have hix : index (b :: l) [44] = if index l [44] == -1 then -1 else index l [44] + 1 := by rw [index, hp]; simp
      cases hn : Lib.count l [44] with
      | zero =>
        rw [hn] at ih
        simp only [splitK] at ih ⊢
        simp only [cut1, hb, if_false, ← ih]
      | succ k =>
        rw [hn] at ih
        have hm : index l [44] ≠ -1 := by
          intro hm
          rw [count_miss hm] at hn
          cases hn
        have hge := index_ge l [44]
        obtain ⟨j, hj⟩ : ∃ j : Nat, index l [44] = j := ⟨(index l [44]).toNat, by omega⟩
        have hm2 : (index l [44] == -1) = false := by simp [hm]
        rw [hm2] at hix
        simp only [splitK, hm2] at ih
        have hix2 : index (b :: l) [44] = ((j + 1 : Nat) : Int) := by rw [hix, hj]; simp
        have hm3 : (index (b :: l) [44] == -1) = false := by rw [hix2]; simp; omega
        simp only [splitK, hm3]
        rw [hix2]
        simp only [Bool.false_eq_true, if_false] at ih ⊢
        rw [hj] at ih
        simp only [cut1, hb, if_false, ← ih]
        simp

def joinC : List (List UInt8) → List UInt8
  | [] => []
  | [x] => x
  | x :: y :: r => x ++ 44 :: joinC (y :: r)

theorem cut1_word : ∀ {w : List UInt8}, 44 ∉ w → cut1 w = [w]
  | [], _ => rfl
  | b :: w, h => by
    have hb : b ≠ 44 := fun e => h (by simp [e])
    have hw : 44 ∉ w := fun e => h (by simp [e])
    simp [cut1, hb, cut1_word hw]

theorem cut1_app : ∀ {w : List UInt8} (t : List UInt8), 44 ∉ w → cut1 (w ++ 44 :: t) = w :: cut1 t
  | [], t, _ => by simp [cut1]
  | b :: w, t, h => by
    have hb : b ≠ 44 := fun e => h (by simp [e])
    have hw : 44 ∉ w := fun e => h (by simp [e])
    simp [cut1, hb, cut1_app t hw]

theorem cut1_join : ∀ {ws : List (List UInt8)}, ws ≠ [] → (∀ x ∈ ws, 44 ∉ x) → cut1 (joinC ws) = ws
  | [], h, _ => absurd rfl h
  | [x], _, h => by simpa [joinC] using cut1_word (h x (by simp))
  | x :: y :: r, _, h => by
    rw [joinC, cut1_app _ (h x (by simp)), cut1_join (by simp) (fun z hz => h z (by simp_all))]

theorem joinC_snoc : ∀ (ws : List (List UInt8)) (x : List UInt8), joinC (ws ++ [x]) = if ws = [] then x else joinC ws ++ 44 :: x
  | [], x => by simp [joinC]
  | [y], x => by simp [joinC]
  | y :: z :: r, x => by
    have ih := joinC_snoc (z :: r) x
    simp only [List.cons_append] at ih ⊢
    rw [joinC, ih]
    simp [joinC]

theorem joinC_app : ∀ (a : List (List UInt8)) {b : List (List UInt8)}, a ≠ [] → b ≠ [] → joinC (a ++ b) = joinC a ++ 44 :: joinC b
  | [], _, h, _ => absurd rfl h
  | [x], b, _, hb => by
    cases b with
    | nil => exact absurd rfl hb
    | cons y r => simp [joinC]
  | x :: y :: r, b, _, hb => by
    have ih := joinC_app (y :: r) (by simp) hb
    simp only [List.cons_append] at ih ⊢
    rw [joinC, ih]
    simp [joinC]

theorem joinC_ne {ws : List (List UInt8)} (h : ws ≠ []) (hn : ∀ x ∈ ws, x ≠ []) : joinC ws ≠ [] := by
  match ws, h with
  | [x], _ => simpa [joinC] using hn x (by simp)
  | x :: y :: r, _ => simp [joinC]

/-- A text of words: what Plan makes of it. -/
theorem planText_join {ws : List (List UInt8)} (hn : ∀ x ∈ ws, x ≠ []) (hc : ∀ x ∈ ws, 44 ∉ x) : planText (joinC ws) = if ws = [] then .ok [] else planWords ws := by
  by_cases h : ws = []
  · subst h; rfl
  · rw [if_neg h]
    unfold planText
    rw [if_neg (joinC_ne h hn), split_cut, cut1_join h hc]

/-- The passes' words by the law's own numbers. -/
def lawNm : Nat → List UInt8
  | 0 => [115, 108, 111, 116, 115] | 1 => [109, 101, 114, 103, 101] | 2 => [114, 101, 97, 99, 104] | 3 => [115, 115, 97] | 4 => [102, 111, 108, 100]
  | 5 => [115, 104, 97, 114, 101] | 6 => [104, 111, 105, 115, 116] | 7 => [115, 119, 101, 101, 112] | _ => [108, 101, 97, 118, 101]
/-- The row of passes that the law's number names. -/
def lawRow (j : Nat) : PassRow := (passRows.find? (fun x => x.1.data.toList == lawNm j)).getD (⟨#[]⟩, 0, 0, 0)
def lawIn (j : Nat) : Int := if 4 ≤ j then 1 else 0
def lawOut (j : Nat) : Int := if 3 ≤ j ∧ j ≤ 7 then 1 else 0

theorem lt9 {p : Nat → Prop} (h : p 0 ∧ p 1 ∧ p 2 ∧ p 3 ∧ p 4 ∧ p 5 ∧ p 6 ∧ p 7 ∧ p 8) : ∀ j, j < 9 → p j := by
  intro j hj
  obtain ⟨h0, h1, h2, h3, h4, h5, h6, h7, h8⟩ := h
  obtain rfl | rfl | rfl | rfl | rfl | rfl | rfl | rfl | rfl : j = 0 ∨ j = 1 ∨ j = 2 ∨ j = 3 ∨ j = 4 ∨ j = 5 ∨ j = 6 ∨ j = 7 ∨ j = 8 := by omega
  all_goals assumption

theorem lawFind : ∀ j, j < 9 → passRows.find? (fun x => x.1.data.toList == lawNm j) = some (lawRow j) := lt9 ⟨rfl, rfl, rfl, rfl, rfl, rfl, rfl, rfl, rfl⟩
theorem lawRow_in : ∀ j, j < 9 → (lawRow j).2.1 = lawIn j := lt9 ⟨rfl, rfl, rfl, rfl, rfl, rfl, rfl, rfl, rfl⟩
theorem lawRow_out : ∀ j, j < 9 → (lawRow j).2.2.1 = lawOut j := lt9 ⟨rfl, rfl, rfl, rfl, rfl, rfl, rfl, rfl, rfl⟩
theorem lawRow_nm : ∀ j, j < 9 → (lawRow j).1.data.toList = lawNm j := lt9 ⟨rfl, rfl, rfl, rfl, rfl, rfl, rfl, rfl, rfl⟩
theorem lawNm_ne (j : Nat) : lawNm j ≠ [] := by unfold lawNm; split <;> simp
theorem lawNm_44 (j : Nat) : 44 ∉ lawNm j := by unfold lawNm; split <;> decide

/-- Plan's go over words of the law's numbers. -/
def idxGo : Int → List Nat → Bool
  | _, [] => true
  | ph, j :: r => lawIn j == ph && idxGo (lawOut j) r

theorem planGo_idx : ∀ (js : List Nat) (acc : List PassRow) (ph : Int), (∀ j ∈ js, j < 9) →
    planGo acc ph (js.map lawNm) = if idxGo ph js then .ok (acc ++ js.map lawRow) else .error 11
  | [], acc, ph, _ => by simp [planGo, idxGo]
  | j :: js, acc, ph, h => by
    have hj := h j (by simp)
    have ih := planGo_idx js (acc ++ [lawRow j]) (lawRow j).2.2.1 (fun i hi => h i (by simp [hi]))
    simp only [List.map_cons, planGo, lawFind j hj, idxGo]
    rw [lawRow_in j hj]
    by_cases hp : lawIn j = ph
    · rw [if_pos hp, ih, lawRow_out j hj]
      simp [hp]
    · rw [if_neg hp]
      simp [hp]

/-- A word that is no pass's: Plan is never OK. -/
theorem planGo_bad : ∀ (ws : List (List UInt8)) (acc : List PassRow) (ph : Int) (x : List UInt8), x ∈ ws → passRows.find? (fun y => y.1.data.toList == x) = none →
    planGo acc ph ws = .error 11 ∨ planGo acc ph ws = .error 12
  | [], _, _, _, h, _ => by cases h
  | w :: ws, acc, ph, x, h, hx => by
    unfold planGo
    split
    · exact .inr rfl
    · rename_i y hy
      split
      · have hxs : x ∈ ws := by
          rcases List.mem_cons.1 h with rfl | h
          · rw [hx] at hy; cases hy
          · exact h
        exact planGo_bad ws _ _ x hxs hx
      · exact .inl rfl

theorem planGo_any : ∀ (ws : List (List UInt8)) (acc : List PassRow) (ph : Int), (∃ r, planGo acc ph ws = .ok r) ∨ planGo acc ph ws = .error 11 ∨ planGo acc ph ws = .error 12
  | [], acc, _ => .inl ⟨acc, rfl⟩
  | w :: ws, acc, ph => by
    unfold planGo
    split
    · exact .inr (.inr rfl)
    · split
      · exact planGo_any ws _ _
      · exact .inr (.inl rfl)

theorem planText_any (s : List UInt8) : (∃ r, planText s = .ok r) ∨ planText s = .error 11 ∨ planText s = .error 12 ∨ planText s = .error 7 := by
  unfold planText planWords
  split
  · exact .inl ⟨_, rfl⟩
  · split
    · exact .inr (.inr (.inr rfl))
    · rcases planGo_any (Lib.split s [44]) [] 0 with h | h | h
      · exact .inl h
      · exact .inr (.inl h)
      · exact .inr (.inr (.inl h))

theorem cut1_snoc : ∀ (l : List UInt8), ∃ (a : List (List UInt8)) (u : List UInt8), cut1 (l ++ [120]) = a ++ [u ++ [120]]
  | [] => ⟨[], [], rfl⟩
  | b :: l => by
    obtain ⟨a, u, h⟩ := cut1_snoc l
    by_cases hb : b = 44
    · exact ⟨[] :: a, u, by simp [cut1, hb, h]⟩
    · cases a with
      | nil => exact ⟨[], b :: u, by simp [cut1, hb, h]⟩
      | cons x r => exact ⟨(b :: x) :: r, u, by simp [cut1, hb, h]⟩

theorem find_x (u : List UInt8) : passRows.find? (fun y => y.1.data.toList == u ++ [120]) = none := by
  rw [List.find?_eq_none]
  intro x hx hc
  have h := beq_iff_eq.1 hc
  have hl : (x.1.data.toList).getLast? = some 120 := by rw [h]; simp
  have hall : ∀ x ∈ passRows, (x.1.data.toList).getLast? ≠ some 120 := by decide
  exact hall x hx hl

/-- "reach," + raw + "x" is no plan. -/
theorem planText_x (raw : List UInt8) : planText ([114, 101, 97, 99, 104, 44] ++ raw ++ [120]) = .error 11 ∨ planText ([114, 101, 97, 99, 104, 44] ++ raw ++ [120]) = .error 12 ∨ planText ([114, 101, 97, 99, 104, 44] ++ raw ++ [120]) = .error 7 := by
  obtain ⟨a, u, h⟩ := cut1_snoc ([114, 101, 97, 99, 104, 44] ++ raw)
  unfold planText planWords
  rw [if_neg (by simp), split_cut, h]
  split
  · exact .inr (.inr rfl)
  · rcases planGo_bad (a ++ [u ++ [120]]) [] 0 (u ++ [120]) (by simp) (find_x u) with h | h
    · exact .inl h
    · exact .inr (.inl h)
end Go.Proofs.YtbfockjliokcdaaGreatDoor
