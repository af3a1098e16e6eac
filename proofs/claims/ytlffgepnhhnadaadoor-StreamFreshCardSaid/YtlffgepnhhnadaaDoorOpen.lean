/- What the laws' rows share: the laid variable, a start that fits, slices of bytes that came in. -/
import Derived.Test.YtlffgepnhhnadaaDoorRows
import Derived.Test.YtlffgepnhhnadaaDoorLawA
import Derived.WalkKit
import Derived.ProofKit
import Derived.OpenShut
import Derived.LaidHandle
import Derived.SevenTiedAt
import Derived.Stop.Joined
namespace Go.Proofs.YtlffgepnhhnadaaDoor.Pl
open Go.ChangeShapes Go.WideShapes Go.ChangeAt Go.RowKit

theorem own : ownKnob Tryd.prog.godebug = none := by kernel_rfl
theorem laidOut : laidOutB Tryd.prog = true := by kernel_rfl
theorem et : Tryd.prog.globalNamed "errors.errorType" = some 0 := by kernel_rfl
theorem rt : (Tryd.prog.cutTypes.find? (·.1 == "internal/reflectlite.rtype")).map (·.2) = some 168 := by kernel_rfl
theorem typesSize : ∃ n, Tryd.prog.types.size = n ∧ ((List.range n).filter fun t => Tryd.prog.rowNamed t [101, 114, 114, 111, 114]) = [45] := ⟨Tryd.prog.types.size, rfl, by kernel_rfl⟩
theorem errT_of_laid {W : World} (h : laidMetH Tryd.prog [("errors.errorType", Rows.laid_errors_errorType)] W) : ErrT W := by
  have h' : laidMet Tryd.prog [] W ∧ handlesMet Tryd.prog [("errors.errorType", Rows.laid_errors_errorType)] W := h
  obtain ⟨name, u, ty, e1, e2, e3, e4, e5⟩ := h'.2 _ (List.mem_singleton.2 rfl)
  have en : name = [101, 114, 114, 111, 114] := (Option.some.inj e1).symm
  subst en
  obtain rfl := Option.some.inj (rt.symm.trans e2)
  obtain ⟨n, hn, hone⟩ := typesSize
  have hm : ty ∈ (List.range n).filter fun t => Tryd.prog.rowNamed t [101, 114, 114, 111, 114] := List.mem_filter.2 ⟨List.mem_range.2 (by rw [← hn]; exact e3), e4⟩
  rw [hone] at hm
  obtain rfl := List.mem_singleton.1 hm
  have hh : typeHandle Tryd.prog 45 = .pointer (some ⟨4, 45, none⟩) := by kernel_rfl
  rw [hh] at e5
  simpa [ErrT] using World.var?_cell et e5 0

/-- A world that meets the condition: the settled one, the variable's cell laid. -/
noncomputable def laidWorld (os : Os) : World :=
  let w0 := World.holding Tryd.prog os ⟨#[], #[], []⟩
  { w0 with heap := w0.heap.modify 0 fun
      | .cells _ t frozen => .cells #[.iface 168 (.agg #[.pointer (some ⟨4, 45, none⟩)])] t frozen
      | o => o }
set_option maxRecDepth 100000 in
theorem laidWorld_met (os : Os) (args : Array Value) : laidMetH Tryd.prog [("errors.errorType", Rows.laid_errors_errorType)] ((laidWorld os).forCall (fun _ _ => 0) ⟨#[], args, []⟩).memory :=
  laidMetH_of_parts (laidMet_nil _ _) (by kernel_rfl)

section
variable {H : Type} {enc : TypeId × Value → H}
theorem bytes8 : Tryd.prog.bytesOf 5 = 1 := by kernel_rfl
theorem cells8 : Tryd.prog.cellsOf 5 = 1 := by kernel_rfl
set_option maxRecDepth 100000 in
/-- a slice of bytes that came in -/
theorem open_bytes {W : World} {base : Nat} {v : Value} {d : DataW H} {p : List MemPlace} (hval : Value.okWide Tryd.prog W .any base 35 v) (h : DataW.Trod enc Tryd.prog W 0 (fun _ => true) true 35 v d p)
    (hsz : ∀ n ∈ d.weights Tryd.prog 35, n ≤ reachBytes) : ∃ l, Bytes (fun _ => True) W v l := by
  obtain ⟨a1, len, cap, rfl⟩ := okWide_slice Tryd.underlying35 hval
  obtain ⟨fuel, hf⟩ := h
  rcases open_ints Tryd.underlying35 Tryd.underlying5 cells8 hf with ⟨hcs, hx⟩ | ⟨a, len', cap', zs, hcs, _, hl, hm, hz, hx, hcell, hwz⟩
  · simp [Value.cells] at hcs
    obtain ⟨rfl, rfl, rfl⟩ := hcs
    exact ⟨[], Sl.nil _ _⟩
  · simp [Value.cells] at hcs
    obtain ⟨rfl, rfl, rfl⟩ := hcs
    simp only [if_true] at hz
    simp only [Prod.mk.injEq] at hx
    obtain ⟨rfl, rfl⟩ := hx
    have hcap : cap ≤ 140737488351232 := by
      have := hsz (((lits .u8 (zs.take len) : List (DataW H)).length + (lits .u8 (zs.drop len) : List (DataW H)).length) * Tryd.prog.bytesOf 5) (by
        simp only [DataW.weights, Tryd.underlying35]; exact List.mem_cons_self)
      rw [bytes8] at this
      simp only [lits, List.length_map, List.length_take, List.length_drop] at this
      unfold reachBytes at this
      omega
    have hll : ((zs.take len).map fun n => UInt8.ofNat n.toNat).length = len := by simp; omega
    refine ⟨(zs.take len).map fun n => UInt8.ofNat n.toNat, some a, cap, by rw [hll], by rw [hll]; exact hl, by rw [hll]; omega, ?_⟩
    by_cases h0 : len = 0
    · left; apply List.eq_nil_of_length_eq_zero; rw [List.length_map, hll, h0]
    obtain ⟨ab, ao, spot⟩ := a
    have hspot : spot = none := by simpa [Addr.add] using World.cell?_spot (hcell 0 (by omega))
    subst hspot
    refine .inr ⟨ab, ao, rfl, trivial, fun i c hi => ?_⟩
    have hil : i < len := by have := (List.getElem?_eq_some_iff.1 hi).1; rw [List.length_map, hll] at this; exact this
    have hcj := hcell i (by omega)
    rw [addn] at hcj
    rw [hcj]
    have hb := range_u8 hwz i
    have e : zs[i]? = some (zs[i]'(by omega)) := List.getElem?_eq_getElem (by omega)
    simp only [List.getElem?_map, List.getElem?_take, if_pos hil, e, Option.map_some, Option.some.injEq] at hi
    rw [List.getD_eq_getElem?_getD, e]
    rw [e] at hb
    simp only [Option.getD_some] at hb ⊢
    rw [← hi]
    congr 1
    unfold bv
    congr 1
    simp only [UInt8.toNat_ofNat']
    omega
end
end Go.Proofs.YtlffgepnhhnadaaDoor.Pl
