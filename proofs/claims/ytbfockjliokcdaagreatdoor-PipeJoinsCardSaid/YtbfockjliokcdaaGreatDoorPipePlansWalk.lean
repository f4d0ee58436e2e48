/- The walk of refinerylaw24.PipePlans. -/
import Derived.Test.YtbfockjliokcdaaGreatDoorPipePlansPure
import Derived.BigQuiet
import Derived.Deep.QuietTactic
namespace Go.Proofs.YtbfockjliokcdaaGreatDoor
open Go.RowKit

/-- The four kinds of a pass: by its number what it is of, and what it gives. -/
theorem law_cls (z : Nat) :
    ((¬ (4 : Int) ≤ (z : Int) % 9) ∧ (¬ (3 : Int) ≤ (z : Int) % 9) ∧ ((z : Int) % 9 ≤ 7) ∧ lawIn (z % 9) = 0 ∧ lawOut (z % 9) = 0) ∨
    ((¬ (4 : Int) ≤ (z : Int) % 9) ∧ ((3 : Int) ≤ (z : Int) % 9) ∧ ((z : Int) % 9 ≤ 7) ∧ lawIn (z % 9) = 0 ∧ lawOut (z % 9) = 1) ∨
    (((4 : Int) ≤ (z : Int) % 9) ∧ ((3 : Int) ≤ (z : Int) % 9) ∧ ((z : Int) % 9 ≤ 7) ∧ lawIn (z % 9) = 1 ∧ lawOut (z % 9) = 1) ∨
    (((4 : Int) ≤ (z : Int) % 9) ∧ ((3 : Int) ≤ (z : Int) % 9) ∧ (¬ (z : Int) % 9 ≤ 7) ∧ lawIn (z % 9) = 1 ∧ lawOut (z % 9) = 0) := by
  have hcl : z % 9 < 3 ∨ z % 9 = 3 ∨ (4 ≤ z % 9 ∧ z % 9 ≤ 7) ∨ z % 9 = 8 := by omega
  rcases hcl with hcl | hcl | hcl | hcl
  · exact .inl ⟨by omega, by omega, by omega, by unfold lawIn; rw [if_neg (by omega)], by unfold lawOut; rw [if_neg (by omega)]⟩
  · exact .inr (.inl ⟨by omega, by omega, by omega, by unfold lawIn; rw [if_neg (by omega)], by unfold lawOut; rw [if_pos (by omega)]⟩)
  · exact .inr (.inr (.inl ⟨by omega, by omega, by omega, by unfold lawIn; rw [if_pos (by omega)], by unfold lawOut; rw [if_pos (by omega)]⟩))
  · exact .inr (.inr (.inr ⟨by omega, by omega, by omega, by unfold lawIn; rw [if_pos (by omega)], by unfold lawOut; rw [if_neg (by omega)]⟩))
theorem lawRow_1 {j : Nat} (h : j < 9) : (lawRow j).1 = ⟨(lawNm j).toArray⟩ := by
  rw [← lawRow_nm j h]

/-- An owned row, as a slice. -/
theorem ownsRow_slice {w : World} {B : Nat} {e : TypeId} {size : Nat} {v : Value} {n : Nat} {xs : List Value} (h : w.ownsRow B e size v n xs) :
    ∃ ad cap, v = .slice ad n cap ∧ n ≤ cap ∧ (n = 0 ∨ ∃ g, ad = some ⟨g, 0, none⟩ ∧ B ≤ g ∧ g < w.heap.size ∧ ∀ j u, xs[j]? = some u → w.cell? ⟨g, j, none⟩ = some u) := by
  by_cases hn : n = 0
  · subst hn
    rcases h.2 with ⟨rfl, _⟩ | ⟨g, cap, cur, rfl, hg, hh, hc, _⟩
    · exact ⟨none, 0, rfl, Nat.le_refl _, .inl rfl⟩
    · exact ⟨_, cap, rfl, hc, .inl rfl⟩
  · obtain ⟨g, cap, rfl, h1, h2, h3, h4⟩ := ownsRow_at h (by omega)
    exact ⟨_, cap, rfl, h3, .inr ⟨g, rfl, h1, h2, h4⟩⟩

theorem HasNames.below {w w' : World} {B : Nat} (h : HasNames w) (hb : Below B w w') (hB : 0 < B) : HasNames w' :=
  fun j hj => (hb.cell (p := ⟨_, j, none⟩) hB).trans (h j hj)

theorem IsBytes.below {w w' : World} {a : Option Addr} {len cap : Nat} {zs : List Nat} (h : IsBytes w a len cap zs) (hb : Below w.heap.size w w') : IsBytes w' a len cap zs := by
  obtain ⟨h1, h2, h3, h4⟩ := h
  refine ⟨h1, h2, h3, ?_⟩
  rcases h4 with h4 | ⟨b, o, ha, hlt, hc⟩
  · exact .inl h4
  · exact .inr ⟨b, o, ha, Nat.lt_of_lt_of_le hlt hb.size, fun i z hz => (hb.cell (p := ⟨b, o + i, none⟩) hlt).trans (hc i z hz)⟩

theorem lawNm_le (j : Nat) : (lawNm j).length ≤ 5 := by unfold lawNm; split <;> decide
theorem joinC_le : ∀ (ws : List (List UInt8)), (∀ x ∈ ws, x.length ≤ 5) → (joinC ws).length ≤ 6 * ws.length
  | [], _ => by simp [joinC]
  | [x], h => by have := h x (by simp); simp only [joinC, List.length_cons, List.length_nil]; omega
  | x :: y :: r, h => by
    have h1 := h x (by simp)
    have h2 := joinC_le (y :: r) (fun z hz => h z (by simp_all))
    simp only [joinC, List.length_append, List.length_cons] at h2 ⊢; omega
theorem lawText_le (zs : List Nat) : (lawText zs).length ≤ 48 := by
  have h := joinC_le ((lawGo false (zs.take 8)).map lawNm) (by simp only [List.mem_map]; rintro x ⟨j, _, rfl⟩; exact lawNm_le j)
  rw [List.length_map, lawGo_length, List.length_take] at h
  unfold lawText; omega

def errOf : Except Int (List PassRow) → Int
  | .ok _ => 0
  | .error c => c

def ErrPost (c : Int) (w : World) (e : Ending) (w' : World) : Prop := ∃ v, e = .returned (.tuple #[v, .int .i64 c]) ∧ Below w.heap.size w w'

theorem plan_err (s : ByteArray) (m : Int) (w : World) (hs : s.size < 4294967281) (hm : w.cell? ⟨2, 0, none⟩ = some (.int .i64 m)) :
    Calls Tryz.prog 9 #[.string s] w (ErrPost (errOf (planText s.data.toList)) w) :=
  (plan_any s m w hs hm).mono fun e w' ⟨h, hb⟩ => by
    cases hr : planText s.data.toList with
    | error c => rw [hr] at h; exact ⟨_, h, hb⟩
    | ok rows => rw [hr] at h; obtain ⟨v, he, _⟩ := h; exact ⟨v, he, hb⟩

set_option maxRecDepth 100000 in
set_option maxHeartbeats 4000000 in
theorem pipePlans_walk (a : Option Addr) (len cap : Nat) (zs : List Nat) (raw : ByteArray) (m : Int) (w : World) (hz : IsBytes w a len cap zs) (hn : HasNames w) (hl : len ≤ maxLen) (hr : raw.size ≤ maxLen)
    (hm : w.cell? ⟨2, 0, none⟩ = some (.int .i64 m)) (hsz : 2 < w.heap.size ∧ 0 < w.heap.size) :
    Calls Tryz.prog 3 #[.slice a len cap, .string raw] w fun e w' => e = .returned (.bool true) ∧ Below w.heap.size w w' := by
  unfold maxLen at hl hr
  obtain ⟨hsz1, hsz2⟩ := hsz
  have Hz := Lib.hid hz; clear hz
  have Hn := Lib.hid hn; clear hn
  have Hm := Lib.hid hm; clear hm
  go_enter Tryz.func3, Tryz.ntmps3
  go_wp2_with fail
  refine (awake24_any m w Hm.out hsz1).mono ?_
  rintro e w1 ⟨rfl, hb1⟩
  have hz1 := hb1.size
  by_cases h30 : 30 < len
  · go_wp2
    go_ret
    exact ⟨rfl, hb1⟩
  by_cases h60 : 60 < raw.size
  · go_wp2
    go_ret
    exact ⟨rfl, hb1⟩
  have Hm1 := Lib.hid ((hb1.cell (p := ⟨2, 0, none⟩) hsz1).trans Hm.out)
  have Hn1 := Lib.hid (Hn.out.below hb1 hsz2)
  have Hb1 := Lib.hid hb1; clear hb1
  obtain ⟨hzl, hcap, hzb, hzc⟩ := Hz.out
  have Hzl := Lib.hid hzl; clear hzl
  have Hzb := Lib.hid hzb; clear hzb
  have hzc1 : len = 0 ∨ ∃ b o, a = some ⟨b, o, none⟩ ∧ b < w.heap.size ∧ ∀ (i z : Nat), zs[i]? = some z → w1.cell? ⟨b, o + i, none⟩ = some (.int .u8 z) := by
    rcases hzc with h | ⟨b, o, h1, h2, h3⟩
    · exact .inl h
    · exact .inr ⟨b, o, h1, h2, fun i z h => (Hb1.out.cell (p := ⟨b, o + i, none⟩) h2).trans (h3 i z h)⟩
  have Hzc := Lib.hid hzc1; clear hzc hzc1
  go_wp2
  go_loop [5, 6, 7, 8, 9, 10, 11, 35] (fun s sg want _ _ _ _ i => ∃ k : Nat, k ≤ len ∧ i = .int .i64 k ∧ ∃ (sb : ByteArray) (b : Bool), sb.size ≤ 6 * k ∧ s = .string sb ∧ sg = .bool b ∧
      ((want = .int .i64 0 ∧ Hid (true = idxGo 0 (pp9 (zs.take k)))) ∨ (want = .int .i64 11 ∧ Hid (false = idxGo 0 (pp9 (zs.take k))))) ∧
      Hid (sb.data.toList = joinC ((pp9 (zs.take k)).map lawNm)) ∧ Hid (b = (lastPh 0 (pp9 (zs.take k)) == 1))) (fun _ _ _ _ _ _ _ i => len - (intOf i).toNat)
  case atStart => exact ⟨0, Nat.zero_le _, rfl, _, _, Nat.le_refl _, rfl, rfl, .inl ⟨rfl, rfl⟩, rfl, rfl⟩
  case round =>
    obtain ⟨k, hk, rfl, sb, b, hsb, rfl, rfl, hw, HS, Hb⟩ := hrel
    by_cases hlt : k < len
    · obtain ⟨z, hz⟩ : ∃ z, zs[k]? = some z := ⟨_, List.getElem?_eq_getElem (by rw [Hzl.out]; exact hlt)⟩
      rcases Hzc.out with h0 | ⟨ab, ao, rfl, hab, hcell⟩
      · omega
      · have hc := hcell k z hz
        have hz256 := Hzb.out z (List.mem_of_getElem? hz)
        clear hcell
        have Hzz := Lib.hid hz; clear hz
        obtain ⟨x, Hx, hxs⟩ : ∃ x : ByteArray, Hid (x.data.toList = lawNm (z % 9)) ∧ x.size ≤ 5 := ⟨⟨(lawNm (z % 9)).toArray⟩, rfl, (show ∀ j, j < 9 → (⟨(lawNm j).toArray⟩ : ByteArray).size ≤ 5 from lt9 (by decide)) _ (Nat.mod_lt _ (by decide))⟩
        have hcn : w1.cell? ⟨0, z % 9, none⟩ = some (.string x) := by
          rw [Hn1.out _ (Nat.mod_lt _ (by decide)), ← Hx.out]
        rcases law_cls z with ⟨k1, k2, k3, hI, hO⟩ | ⟨k1, k2, k3, hI, hO⟩ | ⟨k1, k2, k3, hI, hO⟩ | ⟨k1, k2, k3, hI, hO⟩
        all_goals
          have HI := Lib.hid hI
          have HO := Lib.hid hO
          clear hI hO
          rcases hw with ⟨rfl, HG⟩ | ⟨rfl, HG⟩
          all_goals
            cases b
            all_goals
              by_cases hk0 : 0 < k
              · go_wp2
                go_round
                case rel =>
                  refine ⟨k + 1, by omega, by go_num, _, _, law_size hsb hxs, rfl, rfl, ?_, pp_text Hzz.out HS Hx.out hk0, pp_ph Hzz.out (by rw [HO.out]; rfl)⟩
                  first
                    | exact .inl ⟨rfl, pp_want Hzz.out HG Hb (by rw [HI.out]; rfl)⟩
                    | exact .inr ⟨rfl, pp_want Hzz.out HG Hb (by rw [HI.out]; rfl)⟩
                case measure => simp [intOf]; omega
              · go_wp2
                go_round
                case rel =>
                  refine ⟨k + 1, by omega, by go_num, _, _, law_size0 hsb hxs, rfl, rfl, ?_, pp_text0 Hzz.out HS Hx.out (by omega), pp_ph Hzz.out (by rw [HO.out]; rfl)⟩
                  first
                    | exact .inl ⟨rfl, pp_want Hzz.out HG Hb (by rw [HI.out]; rfl)⟩
                    | exact .inr ⟨rfl, pp_want Hzz.out HG Hb (by rw [HI.out]; rfl)⟩
                case measure => simp [intOf]; omega
    · obtain rfl : k = len := by omega
      have hT : zs.take k = zs := List.take_of_length_le (by rw [Hzl.out]; exact Nat.le_refl _)
      rw [hT] at HS Hb hw
      have hP := planText_idx (pp9_lt zs)
      rw [← HS.out, show (pp9 zs).length = k by rw [pp9, List.length_map, Hzl.out]] at hP
      have HP := Lib.hid hP; clear hP
      have hsz6 : sb.size < 4294967281 := by omega
      by_cases h20 : 20 < k
      · obtain ⟨q7, rfl⟩ : ∃ q7, u7 = .int .i64 q7 := by
          rcases hw with ⟨h, _⟩ | ⟨h, _⟩
          · exact ⟨_, h⟩
          · exact ⟨_, h⟩
        clear hw
        have HP2 := Lib.hid (HP.out.trans (by rw [if_pos h20]))
        go_wp2_with fail
        refine (plan_any sb m w1 hsz6 Hm1.out).mono ?_
        rw [HP2.out]
        rintro e w2 ⟨h, hb2⟩
        obtain rfl : e = .returned (.tuple #[.slice none 0 0, .int .i64 7]) := h
        go_wp2_with fail
        go_loop [4, 14, 15, 16, 103] (fun _ _ _ _ i => i = .int .i64 0) (fun _ _ _ _ _ => 0)
        case atStart => rfl
        case round =>
          obtain rfl := hrel
          have hm2 : w2.cell? ⟨2, 0, none⟩ = some (.int .i64 m) := (hb2.cell (p := ⟨_, _, none⟩) (by simp; omega)).trans Hm1.out
          have hBw : Below w.heap.size w w2 := Hb1.out.trans (hb2.mono hz1)
          have hc0 : errOf (planText raw.data.toList) = 0 ∨ errOf (planText raw.data.toList) = 12 ∨ errOf (planText raw.data.toList) = 11 ∨ errOf (planText raw.data.toList) = 7 := by
            rcases planText_any raw.data.toList with ⟨r, h⟩ | h | h | h
            · rw [h]; exact .inl rfl
            · rw [h]; exact .inr (.inr (.inl rfl))
            · rw [h]; exact .inr (.inl rfl)
            · rw [h]; exact .inr (.inr (.inr rfl))
          have hc1 : (errOf (planText ([114, 101, 97, 99, 104, 44] ++ raw.data.toList ++ [120])) != 0) = true := by
            rcases planText_x raw.data.toList with h | h | h <;> (rw [h]; rfl)
          have Hc0 := Lib.hid hc0; clear hc0
          have Hc1 := Lib.hid hc1; clear hc1
          go_wp2_with fail
          refine (plan_err raw m w2 (by omega) hm2).mono ?_
          rintro e w3 ⟨v3, rfl, hb3⟩
          obtain ⟨c0, e0⟩ : ∃ c0, errOf (planText raw.data.toList) = c0 := ⟨_, rfl⟩
          rw [e0]
          have Hc0' := Hc0.out
          rw [e0] at Hc0'
          have Hc0 := Lib.hid Hc0'; clear Hc0' e0
          have hm3 := (hb3.cell (p := ⟨2, 0, none⟩) (by have := hBw.size; simp; omega)).trans hm2
          have Hm3 := Lib.hid hm3; clear hm3 hm2
          go_wp2_with fail
          obtain ⟨sx, hx⟩ : ∃ sx : ByteArray, (⟨#[114, 101, 97, 99, 104, 44]⟩ ++ raw ++ ⟨#[120]⟩ : ByteArray) = sx := ⟨_, rfl⟩
          rw [hx]
          have hsx : sx.size < 4294967281 := by
            rw [← hx]; simp only [ByteArray.size_append]
            have h1 : (⟨#[114, 101, 97, 99, 104, 44]⟩ : ByteArray).size = 6 := rfl
            have h2 : (⟨#[120]⟩ : ByteArray).size = 1 := rfl
            omega
          have hdx : sx.data.toList = [114, 101, 97, 99, 104, 44] ++ raw.data.toList ++ [120] := by rw [← hx]; simp [ByteArray.data_append]
          have Hdx := Lib.hid hdx
          clear hx hdx
          refine (plan_err sx m w3 hsx Hm3.out).mono ?_
          rw [Hdx.out]
          rintro e w4 ⟨v4, rfl, hb4⟩
          obtain ⟨c1, e1⟩ : ∃ c1, errOf (planText ([114, 101, 97, 99, 104, 44] ++ raw.data.toList ++ [120])) = c1 := ⟨_, rfl⟩
          rw [e1]
          have Hc1' := Hc1.out
          rw [e1] at Hc1'
          clear Hc1 e1
          have hBw4 : Below w.heap.size w w4 := hBw.trans ((hb3.mono hBw.size).trans (hb4.mono (Nat.le_trans hBw.size hb3.size)))
          have HBw4 := Lib.hid hBw4
          have Hm4 := Lib.hid ((hBw4.cell (p := ⟨2, 0, none⟩) hsz1).trans Hm.out)
          have Hz4 := Lib.hid (Hz.out.below hBw4)
          have Hn4 := Lib.hid (Hn.out.below hBw4 hsz2)
          clear hBw4
          go_wp2_with fail
          refine (lawPlan_any a _ cap zs w4 Hz4.out Hn4.out (by unfold maxLen; omega)).mono ?_
          rintro e w' ⟨⟨s5, rfl, hs5⟩, rfl⟩
          have Hs5 := Lib.hid hs5; clear hs5
          go_wp2_with fail
          refine (plan_err s5 m w4 (by have := lawText_le zs; rw [← Hs5.out] at this; show s5.data.size < _; simp only [Array.length_toList] at this; omega) Hm4.out).mono ?_
          rw [Hs5.out, planText_law]
          rintro e w5 ⟨v5, rfl, hb5⟩
          have hb5 : Below w.heap.size w w5 := HBw4.out.trans (hb5.mono HBw4.out.size)
          have Hb5 := Lib.hid hb5; clear hb5
          have hz0 : errOf (.ok ((lawGo false (zs.take 8)).map lawRow)) = 0 := rfl
          rw [hz0]
          clear hz0
          rcases Hc0.out with rfl | rfl | rfl | rfl
          all_goals
            go_wp2
            go_ret
            exact ⟨rfl, Hb5.out⟩
      rcases hw with ⟨rfl, HG⟩ | ⟨rfl, HG⟩
      · have HP2 := Lib.hid (HP.out.trans (by rw [if_neg h20, if_pos HG.out.symm]))
        go_wp2_with fail
        refine (plan_any sb m w1 hsz6 Hm1.out).mono ?_
        rw [HP2.out]
        rintro e w2 ⟨⟨v, rfl, hown⟩, hb2⟩
        rw [List.length_map, show (pp9 zs).length = k by rw [pp9, List.length_map, Hzl.out]] at hown
        obtain ⟨ad, cap2, rfl, hcap2, hrows⟩ := ownsRow_slice hown
        have Hrows := Lib.hid hrows; clear hrows hown
        go_wp2_with fail
        go_loopw [4, 14, 15, 16, 103] (fun _ _ _ _ i wr => ∃ k2 : Nat, k2 ≤ k ∧ i = .int .i64 k2 ∧ Below w2.heap.size w2 wr) (fun _ _ _ _ i _ => k - (intOf i).toNat)
        case atStart => exact ⟨0, Nat.zero_le _, rfl, Below.refl _ _⟩
        case round =>
          obtain ⟨k2, hk2, rfl, hbr⟩ := hrel
          by_cases hlt2 : k2 < k
          · obtain ⟨z, hz⟩ : ∃ z, zs[k2]? = some z := ⟨_, List.getElem?_eq_getElem (by rw [Hzl.out]; exact hlt2)⟩
            rcases Hzc.out with h0 | ⟨ab, ao, rfl, hab, hcell⟩
            · omega
            rcases Hrows.out with h0 | ⟨g, rfl, hg1, hg2, hgc⟩
            · omega
            have hbsz := hbr.size
            have hb2sz := hb2.size
            have hc : wr.cell? ⟨ab, ao + k2, none⟩ = some (.int .u8 z) := (hbr.cell (p := ⟨ab, ao + k2, none⟩) (by simp; omega)).trans ((hb2.cell (p := ⟨ab, ao + k2, none⟩) (by simp; omega)).trans (hcell k2 z hz))
            have hzr : ((pp9 zs).map lawRow)[k2]? = some (lawRow (z % 9)) := by simp [pp9, hz]
            have hcr : ∀ j u, (passCells (lawRow (z % 9)))[j]? = some u → j < 4 → wr.cell? ⟨g, k2 * 4 + j, none⟩ = some u := by
              intro j u hu hj
              rw [hbr.cell (p := ⟨g, k2 * 4 + j, none⟩) (by simp; omega)]
              refine hgc _ _ ?_
              rw [Nat.mul_comm, flat_get passCells (fun _ => rfl) _ _ _ _ hzr hj]
              exact hu
            rw [lawRow_cells, lawRow_1 (Nat.mod_lt _ (by decide)), lawRow_in _ (Nat.mod_lt _ (by decide)), lawRow_out _ (Nat.mod_lt _ (by decide))] at hcr
            have c0 := hcr 0 _ rfl (by decide)
            rw [Nat.add_zero] at c0
            have c1 := hcr 1 _ rfl (by decide)
            have c2 := hcr 2 _ rfl (by decide)
            have c3 := hcr 3 _ rfl (by decide)
            have hcn : wr.cell? ⟨0, z % 9, none⟩ = some (.string ⟨(lawNm (z % 9)).toArray⟩) :=
              (hbr.cell (p := ⟨_, _, none⟩) (by simp; omega)).trans ((hb2.cell (p := ⟨_, _, none⟩) (by simp; omega)).trans (Hn1.out _ (Nat.mod_lt _ (by decide))))
            have hz256 := Hzb.out z (List.mem_of_getElem? hz)
            clear hcr hgc hcell hzr hz Hrows Hzc
            obtain ⟨x, hx⟩ : ∃ x : ByteArray, (⟨(lawNm (z % 9)).toArray⟩ : ByteArray) = x := ⟨_, rfl⟩
            rw [hx] at c0 hcn
            clear hx
            have hq := eql_func_nil
            have hi0 : (0 : Int) ≤ (z : Int) % 9 := by omega
            have hi9 : (z : Int) % 9 < 9 := by omega
            have hablt : ab < wr.heap.size := by omega
            have hnlt : 0 < wr.heap.size := by omega
            rcases law_cls z with ⟨j1, j2, j3, hI, hO⟩ | ⟨j1, j2, j3, hI, hO⟩ | ⟨j1, j2, j3, hI, hO⟩ | ⟨j1, j2, j3, hI, hO⟩
            · have d1 : decide ((4 : Int) ≤ (z : Int) % 9) = false := decide_eq_false j1
              have d2 : decide ((3 : Int) ≤ (z : Int) % 9) = false := decide_eq_false j2
              have d3 : decide ((z : Int) % 9 ≤ 7) = true := decide_eq_true j3
              rw [hI] at c1
              rw [hO] at c2
              clear hI hO
              go_wp2
              refine wp_region_quiet_lit (by kernel_rfl) (by kernel_rfl) ?_
              repeat (any_goals (first | go_big_quiet_step (fail) | quiet_step (fail)))
              refine wpQuiet_nil ?_
              intro _ hw'
              obtain ⟨nq, hw''⟩ := hw'
              subst hw''
              go_wp2
              go_roundw
              case rel => exact ⟨k2 + 1, by omega, by go_num, below_drewN (hbr.alloc (by omega) _) _⟩
              case measure => simp [intOf]; omega
            · have d1 : decide ((4 : Int) ≤ (z : Int) % 9) = false := decide_eq_false j1
              have d2 : decide ((3 : Int) ≤ (z : Int) % 9) = true := decide_eq_true j2
              have d3 : decide ((z : Int) % 9 ≤ 7) = true := decide_eq_true j3
              rw [hI] at c1
              rw [hO] at c2
              clear hI hO
              go_wp2
              refine wp_region_quiet_lit (by kernel_rfl) (by kernel_rfl) ?_
              repeat (any_goals (first | go_big_quiet_step (fail) | quiet_step (fail)))
              refine wpQuiet_nil ?_
              intro _ hw'
              obtain ⟨nq, hw''⟩ := hw'
              subst hw''
              go_wp2
              go_roundw
              case rel => exact ⟨k2 + 1, by omega, by go_num, below_drewN (hbr.alloc (by omega) _) _⟩
              case measure => simp [intOf]; omega
            · have d1 : decide ((4 : Int) ≤ (z : Int) % 9) = true := decide_eq_true j1
              have d2 : decide ((3 : Int) ≤ (z : Int) % 9) = true := decide_eq_true j2
              have d3 : decide ((z : Int) % 9 ≤ 7) = true := decide_eq_true j3
              rw [hI] at c1
              rw [hO] at c2
              clear hI hO
              go_wp2
              refine wp_region_quiet_lit (by kernel_rfl) (by kernel_rfl) ?_
              repeat (any_goals (first | go_big_quiet_step (fail) | quiet_step (fail)))
              refine wpQuiet_nil ?_
              intro _ hw'
              obtain ⟨nq, hw''⟩ := hw'
              subst hw''
              go_wp2
              go_roundw
              case rel => exact ⟨k2 + 1, by omega, by go_num, below_drewN (hbr.alloc (by omega) _) _⟩
              case measure => simp [intOf]; omega
            · have d1 : decide ((4 : Int) ≤ (z : Int) % 9) = true := decide_eq_true j1
              have d2 : decide ((3 : Int) ≤ (z : Int) % 9) = true := decide_eq_true j2
              have d3 : decide ((z : Int) % 9 ≤ 7) = false := decide_eq_false j3
              rw [hI] at c1
              rw [hO] at c2
              clear hI hO
              go_wp2
              refine wp_region_quiet_lit (by kernel_rfl) (by kernel_rfl) ?_
              repeat (any_goals (first | go_big_quiet_step (fail) | quiet_step (fail)))
              refine wpQuiet_nil ?_
              intro _ hw'
              obtain ⟨nq, hw''⟩ := hw'
              subst hw''
              go_wp2
              go_roundw
              case rel => exact ⟨k2 + 1, by omega, by go_num, below_drewN (hbr.alloc (by omega) _) _⟩
              case measure => simp [intOf]; omega
          · obtain rfl : k2 = k := by omega
            have hm2 : wr.cell? ⟨2, 0, none⟩ = some (.int .i64 m) := (hbr.cell (p := ⟨_, _, none⟩) (by have := hb2.size; simp; omega)).trans ((hb2.cell (p := ⟨_, _, none⟩) (by simp; omega)).trans Hm1.out)
            have hBw : Below w.heap.size w wr := Hb1.out.trans ((hb2.mono hz1).trans (hbr.mono (Nat.le_trans hz1 hb2.size)))
            have hc0 : errOf (planText raw.data.toList) = 0 ∨ errOf (planText raw.data.toList) = 12 ∨ errOf (planText raw.data.toList) = 11 ∨ errOf (planText raw.data.toList) = 7 := by
              rcases planText_any raw.data.toList with ⟨r, h⟩ | h | h | h
              · rw [h]; exact .inl rfl
              · rw [h]; exact .inr (.inr (.inl rfl))
              · rw [h]; exact .inr (.inl rfl)
              · rw [h]; exact .inr (.inr (.inr rfl))
            have hc1 : (errOf (planText ([114, 101, 97, 99, 104, 44] ++ raw.data.toList ++ [120])) != 0) = true := by
              rcases planText_x raw.data.toList with h | h | h <;> (rw [h]; rfl)
            have Hc0 := Lib.hid hc0; clear hc0
            have Hc1 := Lib.hid hc1; clear hc1
            go_wp2_with fail
            refine (plan_err raw m wr (by omega) hm2).mono ?_
            rintro e w3 ⟨v3, rfl, hb3⟩
            obtain ⟨c0, e0⟩ : ∃ c0, errOf (planText raw.data.toList) = c0 := ⟨_, rfl⟩
            rw [e0]
            have Hc0' := Hc0.out
            rw [e0] at Hc0'
            have Hc0 := Lib.hid Hc0'; clear Hc0' e0
            have hm3 := (hb3.cell (p := ⟨2, 0, none⟩) (by have := hBw.size; simp; omega)).trans hm2
            have Hm3 := Lib.hid hm3; clear hm3 hm2
            go_wp2_with fail
            obtain ⟨sx, hx⟩ : ∃ sx : ByteArray, (⟨#[114, 101, 97, 99, 104, 44]⟩ ++ raw ++ ⟨#[120]⟩ : ByteArray) = sx := ⟨_, rfl⟩
            rw [hx]
            have hsx : sx.size < 4294967281 := by
              rw [← hx]; simp only [ByteArray.size_append]
              have h1 : (⟨#[114, 101, 97, 99, 104, 44]⟩ : ByteArray).size = 6 := rfl
              have h2 : (⟨#[120]⟩ : ByteArray).size = 1 := rfl
              omega
            have hdx : sx.data.toList = [114, 101, 97, 99, 104, 44] ++ raw.data.toList ++ [120] := by rw [← hx]; simp [ByteArray.data_append]
            have Hdx := Lib.hid hdx
            clear hx hdx
            refine (plan_err sx m w3 hsx Hm3.out).mono ?_
            rw [Hdx.out]
            rintro e w4 ⟨v4, rfl, hb4⟩
            obtain ⟨c1, e1⟩ : ∃ c1, errOf (planText ([114, 101, 97, 99, 104, 44] ++ raw.data.toList ++ [120])) = c1 := ⟨_, rfl⟩
            rw [e1]
            have Hc1' := Hc1.out
            rw [e1] at Hc1'
            clear Hc1 e1
            have hBw4 : Below w.heap.size w w4 := hBw.trans ((hb3.mono hBw.size).trans (hb4.mono (Nat.le_trans hBw.size hb3.size)))
            have HBw4 := Lib.hid hBw4
            have Hm4 := Lib.hid ((hBw4.cell (p := ⟨2, 0, none⟩) hsz1).trans Hm.out)
            have Hz4 := Lib.hid (Hz.out.below hBw4)
            have Hn4 := Lib.hid (Hn.out.below hBw4 hsz2)
            clear hBw4
            go_wp2_with fail
            refine (lawPlan_any a _ cap zs w4 Hz4.out Hn4.out (by unfold maxLen; omega)).mono ?_
            rintro e w' ⟨⟨s5, rfl, hs5⟩, rfl⟩
            have Hs5 := Lib.hid hs5; clear hs5
            go_wp2_with fail
            refine (plan_err s5 m w4 (by have := lawText_le zs; rw [← Hs5.out] at this; show s5.data.size < _; simp only [Array.length_toList] at this; omega) Hm4.out).mono ?_
            rw [Hs5.out, planText_law]
            rintro e w5 ⟨v5, rfl, hb5⟩
            have hb5 : Below w.heap.size w w5 := HBw4.out.trans (hb5.mono HBw4.out.size)
            have Hb5 := Lib.hid hb5; clear hb5
            have hz0 : errOf (.ok ((lawGo false (zs.take 8)).map lawRow)) = 0 := rfl
            rw [hz0]
            clear hz0
            rcases Hc0.out with rfl | rfl | rfl | rfl
            all_goals
              go_wp2
              go_ret
              exact ⟨rfl, Hb5.out⟩
      · have HP2 := Lib.hid (HP.out.trans (by rw [if_neg h20, if_neg (by rw [← HG.out]; decide)]))
        go_wp2_with fail
        refine (plan_any sb m w1 hsz6 Hm1.out).mono ?_
        rw [HP2.out]
        rintro e w2 ⟨h, hb2⟩
        obtain rfl : e = .returned (.tuple #[.slice none 0 0, .int .i64 11]) := h
        go_wp2_with fail
        go_loop [4, 14, 15, 16, 103] (fun _ _ _ _ i => i = .int .i64 0) (fun _ _ _ _ _ => 0)
        case atStart => rfl
        case round =>
          obtain rfl := hrel
          have hm2 : w2.cell? ⟨2, 0, none⟩ = some (.int .i64 m) := (hb2.cell (p := ⟨_, _, none⟩) (by simp; omega)).trans Hm1.out
          have hBw : Below w.heap.size w w2 := Hb1.out.trans (hb2.mono hz1)
          have hc0 : errOf (planText raw.data.toList) = 0 ∨ errOf (planText raw.data.toList) = 12 ∨ errOf (planText raw.data.toList) = 11 ∨ errOf (planText raw.data.toList) = 7 := by
            rcases planText_any raw.data.toList with ⟨r, h⟩ | h | h | h
            · rw [h]; exact .inl rfl
            · rw [h]; exact .inr (.inr (.inl rfl))
            · rw [h]; exact .inr (.inl rfl)
            · rw [h]; exact .inr (.inr (.inr rfl))
          have hc1 : (errOf (planText ([114, 101, 97, 99, 104, 44] ++ raw.data.toList ++ [120])) != 0) = true := by
            rcases planText_x raw.data.toList with h | h | h <;> (rw [h]; rfl)
          have Hc0 := Lib.hid hc0; clear hc0
          have Hc1 := Lib.hid hc1; clear hc1
          go_wp2_with fail
          refine (plan_err raw m w2 (by omega) hm2).mono ?_
          rintro e w3 ⟨v3, rfl, hb3⟩
          obtain ⟨c0, e0⟩ : ∃ c0, errOf (planText raw.data.toList) = c0 := ⟨_, rfl⟩
          rw [e0]
          have Hc0' := Hc0.out
          rw [e0] at Hc0'
          have Hc0 := Lib.hid Hc0'; clear Hc0' e0
          have hm3 := (hb3.cell (p := ⟨2, 0, none⟩) (by have := hBw.size; simp; omega)).trans hm2
          have Hm3 := Lib.hid hm3; clear hm3 hm2
          go_wp2_with fail
          obtain ⟨sx, hx⟩ : ∃ sx : ByteArray, (⟨#[114, 101, 97, 99, 104, 44]⟩ ++ raw ++ ⟨#[120]⟩ : ByteArray) = sx := ⟨_, rfl⟩
          rw [hx]
          have hsx : sx.size < 4294967281 := by
            rw [← hx]; simp only [ByteArray.size_append]
            have h1 : (⟨#[114, 101, 97, 99, 104, 44]⟩ : ByteArray).size = 6 := rfl
            have h2 : (⟨#[120]⟩ : ByteArray).size = 1 := rfl
            omega
          have hdx : sx.data.toList = [114, 101, 97, 99, 104, 44] ++ raw.data.toList ++ [120] := by rw [← hx]; simp [ByteArray.data_append]
          have Hdx := Lib.hid hdx
          clear hx hdx
          refine (plan_err sx m w3 hsx Hm3.out).mono ?_
          rw [Hdx.out]
          rintro e w4 ⟨v4, rfl, hb4⟩
          obtain ⟨c1, e1⟩ : ∃ c1, errOf (planText ([114, 101, 97, 99, 104, 44] ++ raw.data.toList ++ [120])) = c1 := ⟨_, rfl⟩
          rw [e1]
          have Hc1' := Hc1.out
          rw [e1] at Hc1'
          clear Hc1 e1
          have hBw4 : Below w.heap.size w w4 := hBw.trans ((hb3.mono hBw.size).trans (hb4.mono (Nat.le_trans hBw.size hb3.size)))
          have HBw4 := Lib.hid hBw4
          have Hm4 := Lib.hid ((hBw4.cell (p := ⟨2, 0, none⟩) hsz1).trans Hm.out)
          have Hz4 := Lib.hid (Hz.out.below hBw4)
          have Hn4 := Lib.hid (Hn.out.below hBw4 hsz2)
          clear hBw4
          go_wp2_with fail
          refine (lawPlan_any a _ cap zs w4 Hz4.out Hn4.out (by unfold maxLen; omega)).mono ?_
          rintro e w' ⟨⟨s5, rfl, hs5⟩, rfl⟩
          have Hs5 := Lib.hid hs5; clear hs5
          go_wp2_with fail
          refine (plan_err s5 m w4 (by have := lawText_le zs; rw [← Hs5.out] at this; show s5.data.size < _; simp only [Array.length_toList] at this; omega) Hm4.out).mono ?_
          rw [Hs5.out, planText_law]
          rintro e w5 ⟨v5, rfl, hb5⟩
          have hb5 : Below w.heap.size w w5 := HBw4.out.trans (hb5.mono HBw4.out.size)
          have Hb5 := Lib.hid hb5; clear hb5
          have hz0 : errOf (.ok ((lawGo false (zs.take 8)).map lawRow)) = 0 := rfl
          rw [hz0]
          clear hz0
          rcases Hc0.out with rfl | rfl | rfl | rfl
          all_goals
            go_wp2
            go_ret
            exact ⟨rfl, Hb5.out⟩
end Go.Proofs.YtbfockjliokcdaaGreatDoor
