/- From a row's conditions to the walks' facts: slices of bytes, tables of strings, the library's MaxLen. -/
import Derived.Test.YtbfockjliokcdaaGreatDoorCards
import Derived.Test.YtbfockjliokcdaaGreatDoorTie
import Derived.Test.YtbfockjliokcdaaGreatDoorLawPlan
import Derived.ProofKit
import Derived.OpenShut
import Derived.Deep.DeepHandedRow
import Derived.Lib.LaidTab
namespace Go.Proofs.YtbfockjliokcdaaGreatDoor
open Go.ChangeShapes Go.WideShapes Go.ChangeAt Go.RowKit

theorem Tryz.own : ownKnob Tryz.prog.godebug = none := by kernel_rfl
theorem Tryz.laidOut : laidOutB Tryz.prog = true := by kernel_rfl

/-- An array of strings that reads as a table holds the table's strings, cell for cell. -/
theorem cells_of_strtab {H : Type} {enc : TypeId × Value → H} {P : Program} {w : World} {base : Nat} {sp : Nat → Bool} {held : Bool} {fuel : Nat} {t e : TypeId} {n : Nat} {cs : List Value} {zs : List (List UInt8)} {p : List MemPlace}
    (ht : P.underlying t = some (.array n e)) (he : P.underlying e = some .string) (hce : P.cellsOf e = 1) (hct : P.cellsOf t = n)
    (h : DataW.trod enc P w base sp held fuel t cs = some (.agg (zs.map fun z => .lit (.string z)), p)) : cs = zs.map fun z => Value.string ⟨z.toArray⟩ := by
  cases fuel with
  | zero => simp [DataW.trod] at h
  | succ fuel =>
    simp only [DataW.trod, ht, hce, hct, Nat.mul_one] at h
    split at h
    · rename_i hl
      obtain ⟨xs, hm, hx⟩ := Option.map_eq_some_iff.1 h
      have hxs : xs.map (·.1) = zs.map fun z => (DataW.lit (.string z) : DataW H) := by
        have := congrArg Prod.fst hx
        simpa using this
      have hxl : xs.length = n := by simpa using Lib.mapM_length hm
      have hzl : zs.length = n := by
        have := congrArg List.length hxs
        simp at this
        omega
      apply List.ext_getElem?
      intro i
      by_cases hi : i < n
      · obtain ⟨b, hb, hf⟩ := Lib.mapM_at hm i i (by simp [hi])
        obtain ⟨z, hc, rfl, _⟩ := DataW.trod_string he hf
        have h1 : cs[i]? = some (.string z) := by
          have := congrArg (·[0]?) hc
          simpa [List.getElem?_take, List.getElem?_drop] using this
        have h2 : (xs.map (·.1))[i]? = some (DataW.lit (.string z.data.toList) : DataW H) := by simp [hb]
        rw [hxs] at h2
        simp only [List.getElem?_map, Option.map_eq_some_iff, DataW.lit.injEq, Lit.string.injEq] at h2
        obtain ⟨z', hz', rfl⟩ := h2
        simp [h1, hz']
      · rw [List.getElem?_eq_none (by omega), List.getElem?_eq_none (by simp; omega)]
    · cases h

/-- What a listed variable reads as. -/
theorem laidVars_mem {P : Program} {w : World} {name : String} {d : DataW Unit} : ∀ {l : List (String × DataW Unit)} {ps : List MemPlace}, DataW.LaidVars P w l ps → (name, d) ∈ l →
    ∃ g t cs fuel p, P.globalNamed name = some g ∧ (P.globals[g]?).map (·.type) = some t ∧ w.var? P name = some cs ∧ DataW.trod (fun _ => ()) P w 0 (fun _ => true) false fuel t cs.toList = some (d, p)
  | [], _, _, h => by cases h
  | (n, e) :: r, ps, hv, h => by
    obtain ⟨g, t, cs, fuel, p, q, h1, h2, h3, h4, h5, _⟩ := hv
    rcases List.mem_cons.1 h with h | h
    · cases h; exact ⟨g, t, cs, fuel, p, h1, h2, h3, h4⟩
    · exact laidVars_mem h5 h

theorem Tryz.gNames : Tryz.prog.globalNamed "refinery/refinerylaw24.names" = some 0 := by kernel_rfl
theorem Tryz.gNamesType : (Tryz.prog.globals[(0 : Nat)]?).map (·.type) = some 25 := by kernel_rfl
theorem Tryz.cellsNames : Tryz.prog.cellsOf 25 = 9 := by kernel_rfl
theorem Tryz.cellsString : Tryz.prog.cellsOf 9 = 1 := by kernel_rfl

/-- The law's names lie in memory, where the row lists them. -/
theorem hasNames_of {W : World} {l : List (String × DataW Unit)} (h : laidMet Tryz.prog l W) (hm : ("refinery/refinerylaw24.names", Rows.laid_refinery_refinerylaw24_names) ∈ l) : HasNames W := by
  obtain ⟨ps, hv, _⟩ := h
  obtain ⟨g, t, cs, fuel, p, h1, h2, h3, h4⟩ := laidVars_mem hv hm
  obtain rfl := Option.some.inj (Tryz.gNames.symm.trans h1)
  obtain rfl := Option.some.inj (Tryz.gNamesType.symm.trans h2)
  have hc := cells_of_strtab (zs := (List.range 9).map lawNm) Tryz.underlying25 Tryz.underlying9 Tryz.cellsString Tryz.cellsNames h4
  intro j hj
  have := World.var?_cell Tryz.gNames h3 j
  rw [this, ← Array.getElem?_toList, hc]
  simp [hj]

/-- A slice of bytes that came in. -/
theorem isBytes_of {H : Type} {enc : TypeId × Value → H} {W : World} {base fuel : Nat} {sp : Nat → Bool} {a : Option Addr} {len cap : Nat} {d : DataW H} {p : List MemPlace}
    (hf : DataW.trod enc Tryz.prog W base sp true fuel 22 (Value.slice a len cap).cells.toList = some (d, p)) : ∃ zs, IsBytes W a len cap zs ∧ len ≤ maxLen := by
  rcases open_ints Tryz.underlying22 Tryz.underlying5 (by kernel_rfl) hf with ⟨hcs, _⟩ | ⟨x, l, c, zs, hcs, _, hl, hm, hz, _, hcell, hwz⟩
  · simp [Value.cells] at hcs
    obtain ⟨rfl, rfl, rfl⟩ := hcs
    exact ⟨[], ⟨rfl, Nat.le_refl _, fun z h => (by cases h), .inl rfl⟩, Nat.zero_le _⟩
  · simp [Value.cells] at hcs
    obtain ⟨rfl, rfl, rfl⟩ := hcs
    have hzl : len ≤ zs.length := by have : zs.length = if sp x.block = true then cap else len := by simpa using hz
                                     rw [this]; split <;> omega
    refine ⟨(zs.take len).map Int.toNat, ⟨by simp; omega, hl, ?_, ?_⟩, by omega⟩
    · intro z hz
      simp only [List.mem_map] at hz
      obtain ⟨y, hy, rfl⟩ := hz
      have := bounds_u8 (hwz y (List.mem_of_mem_take hy))
      omega
    · by_cases h0 : len = 0
      · exact .inl h0
      · obtain ⟨b, off, rfl, hc⟩ := ints_at hcell (by omega)
        refine .inr ⟨b, off, rfl, ?_, ?_⟩
        · have := hc 0 (by omega)
          exact World.block_lt_of_cell? W _ this
        · intro i z hi
          simp only [List.getElem?_map, List.getElem?_take, Option.map_eq_some_iff] at hi
          obtain ⟨y, hy, rfl⟩ := hi
          split at hy
          · have hlt : i < zs.length := (List.getElem?_eq_some_iff.1 hy).1
            have hw := bounds_u8 (hwz y (List.mem_of_getElem? hy))
            have := hc i hlt
            rw [this]
            simp [hy]
            omega
          · cases hy

/-- The library's MaxLen holds some number. -/
theorem maxLen_of {W : World} (h : W.ShapedOpen Tryz.prog) : ∃ m, W.cell? ⟨2, 0, none⟩ = some (.int .i64 m) := Tryz.laysM146.s1_3 W h
end Go.Proofs.YtbfockjliokcdaaGreatDoor
