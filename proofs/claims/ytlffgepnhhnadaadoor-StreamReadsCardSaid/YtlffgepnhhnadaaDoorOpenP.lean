/- Pieces of bytes, and two numbers, that came in. -/
import Derived.Test.YtlffgepnhhnadaaDoorOpen
import Derived.Test.YtlffgepnhhnadaaDoorRdsA
import Derived.Deep.Slices
namespace Go.Proofs.YtlffgepnhhnadaaDoor.Pl
open Go.ChangeShapes Go.WideShapes Go.ChangeAt Go.RowKit

theorem cellsBs : Tryd.prog.cellsOf 35 = 1 := by kernel_rfl
theorem bytesBs : Tryd.prog.bytesOf 35 = 24 := by kernel_rfl
theorem cellsInt1 : Tryd.prog.cellsOf 3 = 1 := by kernel_rfl
theorem cellsTwo : Tryd.prog.cellsOf 28 = 2 := by kernel_rfl
section
variable {H : Type} {enc : TypeId × Value → H}
theorem weights_mem_all {P : Program} {t : TypeId} : ∀ {l : List (DataW H)} {d : DataW H}, d ∈ l → ∀ n ∈ d.weights P t, n ∈ DataW.weightsAll P t l
  | [], _, h, _, _ => by cases h
  | x :: l, d, h, n, hn => by
    simp only [DataW.weightsAll, List.mem_append]
    rcases List.mem_cons.1 h with rfl | h
    · exact .inl hn
    · exact .inr (weights_mem_all h n hn)
set_option maxRecDepth 100000 in
theorem bytes_of_trod {W : World} {v : Value} {fuel : Nat} {x : DataW H × List MemPlace} (hf : DataW.trod enc Tryd.prog W 0 (fun _ => true) true fuel 35 [v] = some x) (hsz : ∀ n ∈ x.1.weights Tryd.prog 35, n ≤ reachBytes) : ∃ l, Bytes (fun _ => True) W v l := by
  rcases open_ints Tryd.underlying35 Tryd.underlying5 cells8 hf with ⟨hcs, hx⟩ | ⟨a, len, cap, zs, hcs, _, hl, hm, hz, hx, hcell, hwz⟩
  · simp at hcs
    subst hcs
    exact ⟨[], Sl.nil _ _⟩
  · simp at hcs
    subst hcs
    simp only [if_true] at hz
    subst hx
    have hcap : cap ≤ 140737488351232 := by
      have := hsz (((lits .u8 (zs.take len) : List (DataW H)).length + (lits .u8 (zs.drop len) : List (DataW H)).length) * Tryd.prog.bytesOf 5) (by
        simp only [DataW.weights, Tryd.underlying35]; exact List.mem_cons_self)
      rw [bytes8] at this
      simp only [lits, List.length_map, List.length_take, List.length_drop] at this
      unfold reachBytes at this
      omega
    have hll : ((zs.take len).map fun n => UInt8.ofNat n.toNat).length = len := by simp; omega
    refine ⟨(zs.take len).map fun n => UInt8.ofNat n.toNat, some a, cap, by rw [hll], by rw [hll]; exact hl, by rw [hll]; omega, ?_⟩
    by_cases h0 : len = 0
    · left; apply List.eq_nil_of_length_eq_zero; rw [List.length_map, hll, h0]
    obtain ⟨ab, ao, spot⟩ := a
    have hspot : spot = none := by simpa [Addr.add] using World.cell?_spot (hcell 0 (by omega))
    subst hspot
    refine .inr ⟨ab, ao, rfl, trivial, fun i c hi => ?_⟩
    have hil : i < len := by have := (List.getElem?_eq_some_iff.1 hi).1; rw [List.length_map, hll] at this; exact this
    have hcj := hcell i (by omega)
    rw [addn] at hcj
    rw [hcj]
    have hb := range_u8 hwz i
    have e : zs[i]? = some (zs[i]'(by omega)) := List.getElem?_eq_getElem (by omega)
    simp only [List.getElem?_map, List.getElem?_take, if_pos hil, e, Option.map_some, Option.some.injEq] at hi
    rw [List.getD_eq_getElem?_getD, e]
    rw [e] at hb
    simp only [Option.getD_some] at hb ⊢
    rw [← hi]
    congr 1
    unfold bv
    congr 1
    simp only [UInt8.toNat_ofNat']
    omega
theorem each_map {α : Type} {R : Value → α → Prop} (V : Nat → Value) (f : Nat → α) : ∀ (l : List Nat), (∀ i ∈ l, R (V i) (f i)) → Each R (l.map V) (l.map f)
  | [], _ => .nil
  | i :: l, h => .cons (h i (by simp)) (each_map V f l fun j hj => h j (by simp [hj]))
set_option maxRecDepth 100000 in
theorem open_pieces {W : World} {base : Nat} {v : Value} {d : DataW H} {p : List MemPlace} (hval : Value.okWide Tryd.prog W .any base 29 v) (h : DataW.Trod enc Tryd.prog W 0 (fun _ => true) true 29 v d p)
    (hsz : ∀ n ∈ d.weights Tryd.prog 29, n ≤ reachBytes) : ∃ ls, Pieces W v ls := by
  obtain ⟨a1, len, cap, rfl⟩ := okWide_slice Tryd.underlying29 hval
  obtain ⟨fuel, hf⟩ := h
  rcases Go.Deep.open_slice1 Tryd.underlying29 cellsBs hf with ⟨hcs, _⟩ | ⟨a, len', cap', m, n, V, D, Pl, hcs, _, hl, _, hm, hx, hi⟩
  · simp [Value.cells] at hcs
    obtain ⟨rfl, rfl, rfl⟩ := hcs
    exact ⟨[], [], Sl.nil _ _, .nil⟩
  · simp [Value.cells] at hcs
    obtain ⟨rfl, rfl, rfl⟩ := hcs
    simp only [if_true] at hm
    obtain rfl : cap = m := hm.symm
    simp only [Prod.mk.injEq] at hx
    obtain ⟨rfl, rfl⟩ := hx
    have hcap : cap ≤ 140737488351232 := by
      have := hsz (((List.range len).map D).length + (((List.range (cap - len)).map fun j => D (len + j)) : List (DataW H)).length |> (· * Tryd.prog.bytesOf 35)) (by
        simp only [DataW.weights, Tryd.underlying29]; exact List.mem_cons_self)
      simp only [bytesBs, List.length_map, List.length_range] at this
      unfold reachBytes at this
      omega
    have hall : ∀ i, i < len → ∃ l, Bytes (fun _ => True) W (V i) l := fun i hil => bytes_of_trod (hi i (by omega)).2 fun n hn => hsz n (by
      simp only [DataW.weights, Tryd.underlying29]
      refine List.mem_cons_of_mem _ (List.mem_append_left _ (weights_mem_all (d := D i) (List.mem_map.2 ⟨i, List.mem_range.2 hil, rfl⟩) n hn))
      )
    obtain ⟨f, hfm⟩ := Go.Deep.choose_lt (α := List UInt8) hall
    refine ⟨(List.range len).map f, (List.range len).map V, ⟨some a, cap, by simp, by simpa using hl, by simp; omega, ?_⟩, each_map V f _ fun i hi => hfm i (List.mem_range.1 hi)⟩
    by_cases h0 : len = 0
    · left; subst h0; rfl
    obtain ⟨ab, ao, spot⟩ := a
    have hspot : spot = none := by simpa [Addr.add] using World.cell?_spot (hi 0 (by omega)).1
    subst hspot
    refine .inr ⟨ab, ao, rfl, trivial, fun i c hc => ?_⟩
    have hil : i < len := by have := (List.getElem?_eq_some_iff.1 hc).1; simpa using this
    have hcj := (hi i (by omega)).1
    rw [addn] at hcj
    rw [hcj]
    rw [List.getElem?_map, List.getElem?_range hil] at hc
    simpa using hc
set_option maxRecDepth 100000 in
theorem open_two {W : World} {base : Nat} {v : Value} {d : DataW H} {p : List MemPlace} (hval : Value.okWide Tryd.prog W .any base 28 v) (h : DataW.Trod enc Tryd.prog W 0 (fun _ => true) true 28 v d p) :
    ∃ a m : Int, v = .agg #[.int .i64 a, .int .i64 m] := by
  have hv : ∃ cs : Array Value, v = .agg cs := by
    simp only [Value.okWide, Tryd.underlying28] at hval
    obtain ⟨cs, h1, _⟩ := hval
    exact ⟨cs, h1⟩
  obtain ⟨cs, rfl⟩ := hv
  obtain ⟨fuel, hf⟩ := h
  obtain ⟨xs, n, _, _, hl, hx, hel⟩ := DataW.trod_array Tryd.underlying28 hf
  rw [cellsTwo] at hl
  have hl2 : cs.toList.length = 2 := hl
  obtain ⟨x0, x1, hcs⟩ : ∃ x0 x1, cs.toList = [x0, x1] := by
    match hq : cs.toList, hl2 with
    | [a, b], _ => exact ⟨a, b, rfl⟩
  have hcv : (Value.agg cs).cells.toList = [x0, x1] := hcs
  have f0 := hel 0 (by omega)
  have f1 := hel 1 (by omega)
  rw [hcv, cellsInt1, List.getElem?_eq_getElem (by omega)] at f0
  rw [hcv, cellsInt1, List.getElem?_eq_getElem (by omega)] at f1
  obtain ⟨n0, e0, _, _⟩ := DataW.trod_int Tryd.underlying3 f0
  obtain ⟨n1, e1, _, _⟩ := DataW.trod_int Tryd.underlying3 f1
  simp at e0 e1
  subst e0 e1
  refine ⟨n0, n1, ?_⟩
  rw [show cs = cs.toList.toArray by simp, hcs]
end
end Go.Proofs.YtlffgepnhhnadaaDoor.Pl
