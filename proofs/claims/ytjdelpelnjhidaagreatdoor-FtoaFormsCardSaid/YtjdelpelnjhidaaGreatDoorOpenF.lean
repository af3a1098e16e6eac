/- from a row's listed variables to what the walks ask of the world. -/
import Derived.Test.YtjdelpelnjhidaaGreatDoorRows
import Derived.Test.YtjdelpelnjhidaaGreatDoorFtoI
import Derived.LaidSub
import Derived.Lib.LaidTab
import Derived.OpenShut
namespace Go.Proofs.YtjdelpelnjhidaaGreatDoor.Pl
open Go.ChangeShapes Go.WideShapes Go.RowKit
/-- a table of texts -/
theorem cells_of_texts {H : Type} {enc : TypeId × Value → H} {P : Program} {w : World} {base : Nat} {sp : Nat → Bool} {held : Bool} {fuel : Nat} {t e : TypeId} {n : Nat} {cs : List Value} {zs : List (List UInt8)} {p : List MemPlace}
    (ht : P.underlying t = some (.array n e)) (he : P.underlying e = some .string) (hce : P.cellsOf e = 1)
    (h : DataW.trod enc P w base sp held fuel t cs = some (.agg (zs.map fun z => .lit (.string z)), p)) (i : Nat) (hi : i < n) : cs[i]? = some (.string (B (zs.getD i []))) := by
  obtain ⟨xs, m, _, ex, _, hl, hel⟩ := DataW.trod_array ht h
  have hE := hel i hi
  rw [hce, Nat.mul_one, List.getElem?_eq_getElem (by omega)] at hE
  obtain ⟨s, e1, e2, _⟩ := DataW.trod_string he hE
  have e3 : (xs.map (·.1)) = zs.map fun z => .lit (.string z) := (DataW.agg.inj (Prod.mk.inj ex).1).symm
  have e4 : (xs.map (·.1))[i]? = (zs.map fun z => (DataW.lit (.string z) : DataW H))[i]? := by rw [e3]
  have hzl : zs.length = n := by
    have := congrArg List.length e3
    rw [List.length_map, List.length_map] at this
    omega
  rw [List.getElem?_map, List.getElem?_map, List.getElem?_eq_getElem (by omega : i < xs.length), List.getElem?_eq_getElem (by omega : i < zs.length), e2] at e4
  simp only [Option.map_some, Option.some.injEq, DataW.lit.injEq, Lit.string.injEq] at e4
  have h0 : ((cs.drop i).take 1)[0]? = some (.string s) := by rw [e1]; rfl
  have h1 : cs[i]? = some (.string s) := by simpa using h0
  rw [h1, List.getD, List.getElem?_eq_getElem (by omega : i < zs.length), Option.getD_some, ← e4, B_data]
theorem laid_one {W : World} (name : String) {d : DataW Unit} (h : laidMetH Tryz.prog Rows.ftoaOneRow.laid W) (hk : Rows.ftoaOneRow.laid.filter (fun x => x.1 == name) = [(name, d)]) (hd : d.handleName?.isNone = true) : laidMet Tryz.prog [(name, d)] W := by
  have h1 := h.filter (fun x => x.1 == name)
  rw [hk] at h1
  obtain ⟨h2, _⟩ := laidMetH_iff.1 h1
  rwa [show [(name, d)].filter (fun x => x.2.handleName?.isNone) = [(name, d)] by simp [hd]] at h2
def deB64 : List Int := [0, 1, 56, 2, 57, 49, 28, 3, 61, 58, 42, 50, 38, 29, 17, 4, 62, 47, 59, 36, 45, 43, 51, 22, 53, 39, 33, 30, 24, 18, 12, 5, 63, 55, 48, 27, 60, 41, 37, 16, 46, 35, 44, 21, 52, 32, 23, 11, 54, 26, 40, 15, 34, 20, 31, 10, 25, 14, 19, 9, 13, 8, 7, 6]
theorem std_laid {W : World} (h : laidMetH Tryz.prog Rows.ftoaOneRow.laid W) : Std W := by
  refine ⟨?_, ?_, ?_⟩
  · exact Lib.tabIs_of_head (zs := Lib.pow10Tab) (g := 4) (t := 158) (n := 20) (e := 22) (by kernel_rfl) (by kernel_rfl) (by kernel_rfl) (by kernel_rfl) (by kernel_rfl) (by kernel_rfl) (laid_one "internal/strconv.uint64pow10" h (by kernel_rfl) (by kernel_rfl))
  · intro g hg
    have h1 := Lib.tabIs_of_head (k := .u8) (zs := deB64) (g := 6) (t := 175) (n := 64) (e := 5) (by kernel_rfl) (by kernel_rfl) (by kernel_rfl) (by kernel_rfl) (by kernel_rfl) (by kernel_rfl) (laid_one "math/bits.deBruijn64tab" h (by kernel_rfl) (by kernel_rfl))
    exact h1.cell hg 15 (by decide)
  · intro g hg i hi
    obtain ⟨ps, ⟨g', t', cs, fuel, p, q, hg', ht', hvar, hd, _, _⟩, _⟩ := laid_one "plumb/ftoa.zeros" (d := .agg ([[], [48], [48, 120, 48, 112, 43, 48], [48, 101, 43, 48, 48]].map fun z => .lit (.string z))) h (by kernel_rfl) (by kernel_rfl)
    obtain rfl := Option.some.inj (hg.symm.trans hg')
    obtain rfl : g = 0 := Option.some.inj (hg.symm.trans (show Tryz.prog.globalNamed "plumb/ftoa.zeros" = some 0 by kernel_rfl))
    obtain rfl := Option.some.inj ((show (Tryz.prog.globals[0]?).map (·.type) = some 57 by kernel_rfl).symm.trans ht')
    have hc := cells_of_texts (n := 4) (e := 9) (by kernel_rfl) (by kernel_rfl) (by kernel_rfl) hd i hi
    rw [World.var?_cell hg hvar i]
    have h4 : [([] : List UInt8), [48], [48, 120, 48, 112, 43, 48], [48, 101, 43, 48, 48]].getD i [] = zeroT i := by
      rcases (by omega : i = 0 ∨ i = 1 ∨ i = 2 ∨ i = 3) with rfl | rfl | rfl | rfl <;> rfl
    rw [h4] at hc
    simpa using hc
end Go.Proofs.YtjdelpelnjhidaaGreatDoor.Pl
