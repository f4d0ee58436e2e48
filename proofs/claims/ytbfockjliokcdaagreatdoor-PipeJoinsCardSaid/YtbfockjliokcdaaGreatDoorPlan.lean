/- The walk of pipe.Plan: the rows of the passes that a text names, or the error. -/
import Derived.Test.YtbfockjliokcdaaGreatDoorFind
import Derived.Test.YtbfockjliokcdaaGreatDoorShelfSplit
import Derived.Lib.SplitLaws
namespace Go.Proofs.YtbfockjliokcdaaGreatDoor
open Go.RowKit

abbrev PassRow := ByteArray × Int × Int × Nat

/-- What pipe.Plan makes of words, some rows being there already. -/
def planGo : List PassRow → Int → List (List UInt8) → Except Int (List PassRow)
  | acc, _, [] => .ok acc
  | acc, ph, w :: ws =>
    match passRows.find? (fun x => x.1.data.toList == w) with
    | none => .error 12
    | some x => if x.2.1 = ph then planGo (acc ++ [x]) x.2.2.1 ws else .error 11

/-- What pipe.Plan makes of words. -/
def planWords (ws : List (List UInt8)) : Except Int (List PassRow) := if 20 < ws.length then .error 7 else planGo [] 0 ws

/-- What pipe.Plan makes of a text. -/
def planText (s : List UInt8) : Except Int (List PassRow) := if s = [] then .ok [] else planWords (Lib.split s [44])

def PlanPost (B : Nat) (r : Except Int (List PassRow)) (e : Ending) (w' : World) : Prop :=
  match r with
  | .error c => e = .returned (.tuple #[.slice none 0 0, .int .i64 c])
  | .ok rows => ∃ v, e = .returned (.tuple #[v, .int .i64 0]) ∧ w'.ownsRow B 32 4 v rows.length (rows.flatMap passCells)

theorem Tryz.infoPass : (Tryz.prog.info? 32).map (fun i => (i.zero, i.size, i.bytes)) = some (some (.agg #[.string ⟨#[]⟩, .int .u8 0, .int .u8 0, .nilFunc]), 4, 32) := by kernel_rfl

theorem findVal_none {l : List UInt8} (h : passRows.find? (fun x => x.1.data.toList == l) = none) : findVal l = .tuple #[.agg #[.string ByteArray.empty, .int .u8 0, .int .u8 0, .nilFunc], .bool false] := by
  simp only [findVal, h, noPass]
theorem findVal_some {l : List UInt8} {x : PassRow} (h : passRows.find? (fun x => x.1.data.toList == l) = some x) :
    findVal l = .tuple #[.agg #[.string x.1, .int .u8 x.2.1, .int .u8 x.2.2.1, .func (.func x.2.2.2) #[] #[]], .bool true] := by
  simp only [findVal, h, passCells]

theorem ownsRow_mono {w : World} {B B' : Nat} {e : TypeId} {size : Nat} {v : Value} {n : Nat} {xs : List Value} (h : w.ownsRow B e size v n xs) (hB : B' ≤ B) : w.ownsRow B' e size v n xs := by
  obtain ⟨h1, h2⟩ := h
  refine ⟨h1, ?_⟩
  rcases h2 with h2 | ⟨g, cap, cur, hv, hg, r⟩
  · exact .inl h2
  · exact .inr ⟨g, cap, cur, hv, by omega, r⟩

theorem cells_new {w : World} {n : Nat} (hn : n = w.heap.size) (l : List Value) (t : TypeId) : ∀ j u, l[j]? = some u → (w.alloc (.cells l.toArray t)).cell? ((⟨n, 0, none⟩ : Addr).add j) = some u := by
  intro j u h
  have hadd : (⟨n, 0, none⟩ : Addr).add j = ⟨n, j, none⟩ := by unfold Addr.add; split <;> simp_all
  rw [hadd, World.cell?_alloc_at _ _ _ _ hn]
  simpa using h

theorem below_grown {w w' : World} (h : Below w.heap.size w w') : w.grownBy w' none := ⟨h.os, h.tape, h.output, h.size, fun k hk _ => h.block k hk⟩

theorem ownsRow_below {w w' : World} {B : Nat} {e : TypeId} {size : Nat} {v : Value} {n : Nat} {xs : List Value} (h : w.ownsRow B e size v n xs) (hb : Below w.heap.size w w') : w'.ownsRow B e size v n xs :=
  h.kept (below_grown hb) (by cases hv : v.ownBlock <;> simp)

set_option maxRecDepth 100000 in
set_option maxHeartbeats 1000000 in
theorem plan_any (s : ByteArray) (m : Int) (w : World) (hs : s.size < 4294967281) (hm : w.cell? ⟨2, 0, none⟩ = some (.int .i64 m)) :
    Calls Tryz.prog 9 #[.string s] w fun e w' => PlanPost w.heap.size (planText s.data.toList) e w' ∧ Below w.heap.size w w' := by
  by_cases he : s.toList = []
  · have hr : planText s.data.toList = .ok [] := by rw [← Lib.toList_data, he]; rfl
    have Hr := Lib.hid hr; clear hr
    have he2 : (!s.toList.isEmpty) = false := by rw [he]; rfl
    go_enter Tryz.func9, Tryz.ntmps9
    go_wp2
    go_ret2
    rw [Hr.out]
    exact ⟨⟨_, rfl, World.ownsRow_nil _ _ _ _⟩, Below.refl _ _⟩
  · have he2 : s.toList.isEmpty = false := by cases h : s.toList with
      | nil => exact absurd h he
      | cons a b => rfl
    have he3 : ¬ s.data.toList = [] := by rw [← Lib.toList_data]; exact he
    obtain ⟨ws, hws⟩ : ∃ ws, Lib.splitB ⟨#[44]⟩ 0 (Lib.countB s ⟨#[44]⟩) s = ws := ⟨_, rfl⟩
    obtain ⟨n, hn⟩ : ∃ n, Lib.countB s ⟨#[44]⟩ + 1 = n := ⟨_, rfl⟩
    have hlen : ws.length = n := by rw [← hws, ← hn]; exact Lib.splitB_all _ (by decide) 0 _ s rfl
    have hr : planText s.data.toList = planWords (ws.map (·.data.toList)) := by
      unfold planText; rw [if_neg he3, ← hws, Lib.splitB_data]; rfl
    have Hr := Lib.hid hr; clear hr
    have Hlen := Lib.hid hlen; clear hlen
    have hn63 : n ≤ 4294967281 := by
      have := Lib.countB_le ⟨#[44]⟩ (by decide) s.size s (Nat.le_refl _)
      omega
    have Hws := Lib.hid hws; clear hws
    have Hn := Lib.hid hn; clear hn
    go_enter Tryz.func9, Tryz.ntmps9
    go_wp2_with fail
    refine (Tryz.strings_Split s ⟨#[44]⟩ m w hs hm (by decide)).mono ?_
    rw [Hws.out, Hn.out]
    rintro e w' ⟨rfl, rfl⟩
    by_cases h20 : 20 < n
    · go_wp2
      go_ret2
      have hp : planWords (ws.map (·.data.toList)) = .error 7 := by unfold planWords; rw [if_pos (by rw [List.length_map, Hlen.out]; exact h20)]
      rw [Hr.out, hp]
      exact ⟨rfl, (Below.refl _ _).alloc (Nat.le_refl _) _⟩
    · have hp : planWords (ws.map (·.data.toList)) = planGo [] 0 (ws.map (·.data.toList)) := by unfold planWords; rw [if_neg (by rw [List.length_map, Hlen.out]; exact h20)]
      have Hp := Lib.hid (Hr.out.trans hp); clear hp Hr
      go_wp2
      obtain ⟨W1, hW1⟩ : ∃ W1, w.alloc (.cells (ws.map Value.string).toArray 9) = W1 := ⟨_, rfl⟩
      rw [hW1]
      have hz : W1.heap.size = w.heap.size + 1 := by rw [← hW1]; simp
      have hB0 : Below w.heap.size w W1 := by rw [← hW1]; exact (Below.refl _ _).alloc (Nat.le_refl _) _
      have hcw : ∀ j x, ws[j]? = some x → W1.cell? ⟨w.heap.size, j, none⟩ = some (.string x) := by
        intro j x hx
        rw [← hW1, World.cell?_alloc_at _ _ _ _ rfl]; simp [hx]
      have HB0 := Lib.hid hB0; clear hB0
      have Hcw := Lib.hid hcw; clear hcw
      have Hz := Lib.hid hz; clear hz hW1
      obtain ⟨i0, hi, hz0, hz1, hz2⟩ := info_parts Tryz.infoPass
      go_loopw [2, 3, 5, 6, 8, 9, 10, 20] (fun _ _ l ph _ _ _ i wr => ∃ k : Nat, k ≤ n ∧ i = .int .i64 k ∧ ∃ (rows : List PassRow) (p : Int), ph = .int .u8 p ∧ rows.length = k ∧
          Hid (planText s.data.toList = planGo rows p ((ws.map (·.data.toList)).drop k)) ∧ wr.ownsRow (w.heap.size + 1) 32 4 l rows.length (rows.flatMap passCells) ∧ Below (w.heap.size + 1) W1 wr) (fun _ _ _ _ _ _ _ i _ => n - (intOf i).toNat)
      case atStart => exact ⟨0, Nat.zero_le _, rfl, [], 0, rfl, rfl, Hp, World.ownsRow_nil _ _ _ _, Below.refl _ _⟩
      case round =>
        obtain ⟨k, hk, rfl, rows, p, rfl, hlen, HG, hown, hB⟩ := hrel
        have Hlen2 := Lib.hid hlen; clear hlen
        have hsz : w.heap.size + 1 ≤ wr.heap.size := by have := hB.size; rw [Hz.out] at this; exact this
        by_cases hlt : k < n
        · obtain ⟨x, hx⟩ : ∃ x, ws[k]? = some x := ⟨_, List.getElem?_eq_getElem (by rw [Hlen.out]; exact hlt)⟩
          have hcx : wr.cell? ⟨w.heap.size, k, none⟩ = some (.string x) := (hB.cell (by simp)).trans (Hcw.out k x hx)
          have hdrop : (ws.map (·.data.toList)).drop k = x.data.toList :: (ws.map (·.data.toList)).drop (k + 1) := by
            rw [List.drop_eq_getElem_cons (by rw [List.length_map, Hlen.out]; exact hlt)]
            rw [List.getElem_map, (List.getElem_eq_iff _).2 hx]
          have HD := Lib.hid hdrop; clear hdrop hx
          cases hf : passRows.find? (fun y => y.1.data.toList == x.data.toList) with
          | none =>
            have hv := findVal_none hf
            rw [← Lib.toList_data] at hv
            have Hv := Lib.hid hv; clear hv
            have Hf := Lib.hid hf; clear hf
            go_wp2_with fail
            refine (find_any x wr).mono ?_
            rw [Hv.out]
            rintro e w' ⟨rfl, hb⟩
            have HB := hb.size
            go_wp2
            go_ret2
            have hg : planGo rows p ((ws.map (·.data.toList)).drop k) = .error 12 := by rw [HD.out]; simp only [planGo, Hf.out]
            rw [HG.out, hg]
            exact ⟨rfl, ((HB0.out.trans (hB.mono (by omega))).trans (hb.mono (by omega))).alloc (by omega) _⟩
          | some y =>
            have hv := findVal_some hf
            rw [← Lib.toList_data] at hv
            have Hv := Lib.hid hv; clear hv
            have Hf := Lib.hid hf; clear hf
            obtain ⟨nm, pi, po, pf⟩ := y
            go_wp2_with fail
            refine (find_any x wr).mono ?_
            rw [Hv.out]
            rintro e w' ⟨rfl, hb⟩
            have HB := hb.size
            by_cases hne : pi = p
            · subst hne
              have hown2 := ((ownsRow_below hown hb).alloc (.cells #[.string nm, .int .u8 pi, .int .u8 po, .func (.func pf) #[] #[]] 32)).alloc (.cells #[.string nm, .int .u8 pi, .int .u8 po, .func (.func pf) #[] #[]] 32)
              clear hown
              have Hlt := Lib.hid (show rows.length < 20 by rw [Hlen2.out]; omega)
              go_wp2_with ((at_builtin; refine wpList_append_own _ rfl _ _ 26 rfl (w.heap.size + 1) 32 i0 _ 4 32 Tryz.underlying26 hi hz0 hz1 hz2 rfl (by decide) _ _ _ rfl hown2 ⟨w'.heap.size + 1, 0, none⟩ 1 1 [.string nm, .int .u8 pi, .int .u8 po, .func (.func pf) #[] #[]] rfl rfl (cells_new (by simp) _ _) ?c2 ?c3 ?c4 ?c5 ?_))
              case c2 => simp [Value.oneCell']
              case c3 => have := Hlt.out; unfold maxLen; omega
              case c4 => have := Hlt.out; omega
              case c5 => simp; omega
              intro v' w1 hown' hgrow _
              have hB1 : Below (w.heap.size + 1) W1 w1 := (((hB.trans (hb.mono (by omega))).alloc (by omega) _).alloc (by simp; omega) _).grown hgrow (by simp; omega) (fun j hj => (hown2.lt j hj).1)
              have HB1 := Lib.hid hB1; clear hown2 hgrow hB1
              go_wp2
              go_roundw
              case rel =>
                refine ⟨k + 1, by omega, by go_num, rows ++ [(nm, pi, po, pf)], po, rfl, by simp [Hlen2.out], ?_, ?_, HB1.out⟩
                · show planText s.data.toList = _
                  rw [HG.out, HD.out]
                  simp only [planGo, Hf.out]
                  rw [if_pos trivial]
                · have e1 : (rows ++ [(nm, pi, po, pf)]).length = rows.length + 1 := by simp
                  have e2 : (rows ++ [(nm, pi, po, pf)]).flatMap passCells = rows.flatMap passCells ++ [.string nm, .int .u8 pi, .int .u8 po, .func (.func pf) #[] #[]] := by simp [passCells]
                  rw [e1, e2]; exact hown'
              case measure => simp [intOf]; omega
            · go_wp2
              go_ret2
              have hg : planGo rows p ((ws.map (·.data.toList)).drop k) = .error 11 := by rw [HD.out]; simp only [planGo, Hf.out]; rw [if_neg hne]
              rw [HG.out, hg]
              exact ⟨rfl, ((HB0.out.trans (hB.mono (by omega))).trans (hb.mono (by omega))).alloc (by omega) _⟩
        · obtain rfl : k = n := by omega
          go_wp2
          go_ret2
          have hg : planGo rows p ((ws.map (·.data.toList)).drop k) = .ok rows := by
            rw [List.drop_of_length_le (by rw [List.length_map, Hlen.out]; exact Nat.le_refl _)]; rfl
          rw [HG.out, hg]
          exact ⟨⟨_, rfl, ownsRow_mono hown (by omega)⟩, HB0.out.trans (hB.mono (by omega))⟩
end Go.Proofs.YtbfockjliokcdaaGreatDoor
