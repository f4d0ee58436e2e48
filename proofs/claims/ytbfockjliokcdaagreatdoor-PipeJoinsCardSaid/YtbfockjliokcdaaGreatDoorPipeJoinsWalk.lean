/- The walk of refinerylaw24.PipeJoins. -/
import Derived.Test.YtbfockjliokcdaaGreatDoorPipePlansWalk
namespace Go.Proofs.YtbfockjliokcdaaGreatDoor
open Go.RowKit

theorem lawSnoc_ne {l : List Nat} {sg : Bool} (h : l ≠ []) : (lawGo sg l).map lawNm ≠ [] := by
  intro he
  have := congrArg List.length he
  rw [List.length_map, lawGo_length, List.length_nil] at this
  exact h (List.length_eq_zero_iff.1 this)

/-- Two plans' texts, a comma between. -/
theorem planText_two (a b : List Nat) (ha : a.length ≤ 8) (hb : b.length ≤ 8) (ha0 : a ≠ []) (hb0 : b ≠ []) :
    planText (lawText a ++ 44 :: lawText b) = if lastPh 0 (lawGo false a) = 0 then .ok ((lawGo false a ++ lawGo false b).map lawRow) else .error 11 := by
  unfold lawText
  rw [List.take_of_length_le ha, List.take_of_length_le hb, ← joinC_app _ (lawSnoc_ne ha0) (lawSnoc_ne hb0), ← List.map_append,
    planText_idx (by
      intro j hj
      rcases List.mem_append.1 hj with h | h
      · exact lawGo_lt _ _ j h
      · exact lawGo_lt _ _ j h),
    if_neg (by rw [List.length_append, lawGo_length, lawGo_length]; omega), idxGo_app, show idxGo 0 (lawGo false a) = true from lawGo_ok a false, Bool.true_and]
  by_cases h : lastPh 0 (lawGo false a) = 0
  · rw [h, if_pos (show idxGo 0 (lawGo false b) = true from lawGo_ok b false), if_pos rfl]
  · rw [if_neg h, if_neg]
    cases b with
    | nil => exact absurd rfl hb0
    | cons n r =>
      intro he
      simp only [lawGo, idxGo, Bool.and_eq_true, beq_iff_eq] at he
      have h1 : lawIn (lawNext false n) = 0 := by
        unfold lawIn lawNext
        rw [if_neg]
        simp; omega
      exact h (by rw [← he.1, h1])

theorem lastPh_last : ∀ (l : List Nat) (ph : Int) (h : l ≠ []), lastPh ph l = lawOut (l.getLast h)
  | [_], _, _ => rfl
  | x :: y :: r, ph, _ => by
    rw [lastPh, lastPh_last (y :: r) (lawOut x) (by simp)]
    simp

theorem planText_len {l : List Nat} (h : l.length ≤ 8) : planText (lawText l) = .ok ((lawGo false l).map lawRow) := by
  rw [planText_law, List.take_of_length_le h]

set_option maxRecDepth 100000 in
set_option maxHeartbeats 4000000 in
theorem pipeJoins_walk (a b : Option Addr) (la ca lb cb : Nat) (za zb : List Nat) (m : Int) (w : World) (hza : IsBytes w a la ca za) (hzb : IsBytes w b lb cb zb) (hn : HasNames w) (hl : la ≤ maxLen) (hr : lb ≤ maxLen)
    (hm : w.cell? ⟨2, 0, none⟩ = some (.int .i64 m)) (hsz : 2 < w.heap.size ∧ 0 < w.heap.size) :
    Calls Tryz.prog 4 #[.slice a la ca, .slice b lb cb] w fun e w' => e = .returned (.bool true) ∧ Below w.heap.size w w' := by
  unfold maxLen at hl hr
  obtain ⟨hsz1, hsz2⟩ := hsz
  have Hza := Lib.hid hza; clear hza
  have Hzb := Lib.hid hzb; clear hzb
  have Hn := Lib.hid hn; clear hn
  have Hm := Lib.hid hm; clear hm
  go_enter Tryz.func4, Tryz.ntmps4
  go_wp2_with fail
  refine (awake24_any m w Hm.out hsz1).mono ?_
  rintro e w1 ⟨rfl, hb1⟩
  have hz1 := hb1.size
  by_cases h1 : la < 1
  · go_wp2
    go_ret
    exact ⟨rfl, hb1⟩
  by_cases h2 : lb < 1
  · go_wp2
    go_ret
    exact ⟨rfl, hb1⟩
  by_cases h3 : 8 < la
  · go_wp2
    go_ret
    exact ⟨rfl, hb1⟩
  by_cases h4 : 8 < lb
  · go_wp2
    go_ret
    exact ⟨rfl, hb1⟩
  obtain ⟨k, rfl⟩ : ∃ k, la = k + 1 := ⟨la - 1, by omega⟩
  have Hm1 := Lib.hid ((hb1.cell (p := ⟨2, 0, none⟩) hsz1).trans Hm.out)
  have Hn1 := Lib.hid (Hn.out.below hb1 hsz2)
  have Hza1 := Lib.hid (Hza.out.below hb1)
  have Hzb1 := Lib.hid (Hzb.out.below hb1)
  have Hb1 := Lib.hid hb1; clear hb1
  have HA : Hid (za.length ≤ 8 ∧ za ≠ []) := ⟨by have := Hza.out.1; omega, by rintro rfl; have := Hza.out.1; simp at this⟩
  have HB : Hid (zb.length ≤ 8 ∧ zb ≠ []) := ⟨by have := Hzb.out.1; omega, by rintro rfl; have := Hzb.out.1; simp at this; omega⟩
  go_wp2_with fail
  refine (lawPlan_any a _ ca za w1 Hza1.out Hn1.out (by unfold maxLen; omega)).mono ?_
  rintro e w' ⟨⟨sa, rfl, hsa⟩, rfl⟩
  have Hsa := Lib.hid hsa; clear hsa
  go_wp2_with fail
  refine (lawPlan_any b _ cb zb w1 Hzb1.out Hn1.out (by unfold maxLen; omega)).mono ?_
  rintro e w' ⟨⟨sb, rfl, hsb⟩, rfl⟩
  have Hsb := Lib.hid hsb; clear hsb
  have hla : sa.size ≤ 48 := by have := lawText_le za; rw [← Hsa.out] at this; show sa.data.size ≤ _; simpa using this
  have hlb : sb.size ≤ 48 := by have := lawText_le zb; rw [← Hsb.out] at this; show sb.data.size ≤ _; simpa using this
  go_wp2_with fail
  refine (plan_any sa m w1 (by omega) Hm1.out).mono ?_
  rw [Hsa.out, planText_len HA.out.1]
  rintro e w2 ⟨⟨v2, rfl, hown2⟩, hb2⟩
  rw [List.length_map, lawGo_length, Hza.out.1] at hown2
  obtain ⟨ad2, cap2, rfl, hcap2, hrows2⟩ := ownsRow_slice hown2
  have Hrows2 := Lib.hid hrows2; clear hrows2 hown2
  have hz2 := hb2.size
  have Hm2 := Lib.hid ((hb2.cell (p := ⟨2, 0, none⟩) (by simp; omega)).trans Hm1.out)
  have Hb2 := Lib.hid hb2; clear hb2
  go_wp2_with fail
  refine (plan_any sb m w2 (by omega) Hm2.out).mono ?_
  rw [Hsb.out, planText_len HB.out.1]
  rintro e w3 ⟨⟨v3, rfl, hown3⟩, hb3⟩
  rw [List.length_map, lawGo_length, Hzb.out.1] at hown3
  obtain ⟨ad3, cap3, rfl, hcap3, -⟩ := ownsRow_slice hown3
  clear hown3
  have hz3 := hb3.size
  have Hm3 := Lib.hid ((hb3.cell (p := ⟨2, 0, none⟩) (by simp; omega)).trans Hm2.out)
  have Hb3 := Lib.hid hb3; clear hb3
  go_wp2_with fail
  obtain ⟨sx, hx⟩ : ∃ sx : ByteArray, (sa ++ ⟨#[44]⟩ ++ sb : ByteArray) = sx := ⟨_, rfl⟩
  rw [hx]
  have hsx : sx.size < 4294967281 := by
    rw [← hx]; simp only [ByteArray.size_append]
    have h1 : (⟨#[44]⟩ : ByteArray).size = 1 := rfl
    omega
  have hdx : sx.data.toList = lawText za ++ 44 :: lawText zb := by rw [← hx, ← Hsa.out, ← Hsb.out]; simp [ByteArray.data_append]
  have Hdx := Lib.hid hdx
  clear hx hdx
  refine (plan_any sx m w3 hsx Hm3.out).mono ?_
  rw [Hdx.out, planText_two za zb HA.out.1 HB.out.1 HA.out.2 HB.out.2]
  have hlast : ∃ x, (lawGo false za)[k]? = some x ∧ lastPh 0 (lawGo false za) = lawOut x ∧ x < 9 := by
    have hlen : (lawGo false za).length = k + 1 := by rw [lawGo_length, Hza.out.1]
    have hne : lawGo false za ≠ [] := by intro h; rw [h] at hlen; cases hlen
    refine ⟨(lawGo false za).getLast hne, ?_, lastPh_last _ _ hne, lawGo_lt _ _ _ (List.getLast_mem hne)⟩
    rw [List.getLast_eq_getElem]
    rw [List.getElem?_eq_getElem (by omega)]
    simp [hlen]
  obtain ⟨x, hx, hph, hx9⟩ := hlast
  rcases Hrows2.out with h0 | ⟨g, rfl, hg1, hg2, hgc⟩
  · exact absurd h0 (Nat.succ_ne_zero k)
  have hcell2 : w2.cell? ⟨g, k * 4 + 2, none⟩ = some (.int .u8 (lawOut x)) := by
    refine hgc _ _ ?_
    rw [Nat.mul_comm, flat_get passCells (fun _ => rfl) _ _ _ (lawRow x) (by simp [hx]) (by decide), lawRow_cells, lawRow_out x hx9]
    rfl
  rw [hph]
  have hout : lawOut x = 0 ∨ lawOut x = 1 := by unfold lawOut; split; exact .inr rfl; exact .inl rfl
  clear hgc hx hph Hrows2
  rcases hout with hout | hout
  · rw [hout] at hcell2 ⊢
    rw [if_pos rfl]
    rintro e w4 ⟨⟨v4, rfl, hown4⟩, hb4⟩
    rw [List.length_map, List.length_append, lawGo_length, lawGo_length, Hza.out.1, Hzb.out.1] at hown4
    obtain ⟨ad4, cap4, rfl, hcap4, -⟩ := ownsRow_slice hown4
    clear hown4
    have hc4 : w4.cell? ⟨g, k * 4 + 2, none⟩ = some (.int .u8 0) := (hb4.cell (p := ⟨g, k * 4 + 2, none⟩) (by simp; omega)).trans ((Hb3.out.cell (p := ⟨g, k * 4 + 2, none⟩) hg2).trans hcell2)
    have Hb4 := Lib.hid (Hb1.out.trans ((Hb2.out.mono hz1).trans ((Hb3.out.mono (Nat.le_trans hz1 hz2)).trans (hb4.mono (Nat.le_trans hz1 (Nat.le_trans hz2 hz3))))))
    clear hb4 hcell2
    go_wp2
    go_ret
    exact ⟨rfl, Hb4.out⟩
  · rw [hout] at hcell2 ⊢
    rw [if_neg (by decide)]
    rintro e w4 ⟨h, hb4⟩
    obtain rfl : e = .returned (.tuple #[.slice none 0 0, .int .i64 11]) := h
    have hc4 : w4.cell? ⟨g, k * 4 + 2, none⟩ = some (.int .u8 1) := (hb4.cell (p := ⟨g, k * 4 + 2, none⟩) (by simp; omega)).trans ((Hb3.out.cell (p := ⟨g, k * 4 + 2, none⟩) hg2).trans hcell2)
    have Hb4 := Lib.hid (Hb1.out.trans ((Hb2.out.mono hz1).trans ((Hb3.out.mono (Nat.le_trans hz1 hz2)).trans (hb4.mono (Nat.le_trans hz1 (Nat.le_trans hz2 hz3))))))
    clear hb4 hcell2
    go_wp2
    go_ret
    exact ⟨rfl, Hb4.out⟩
end Go.Proofs.YtbfockjliokcdaaGreatDoor
