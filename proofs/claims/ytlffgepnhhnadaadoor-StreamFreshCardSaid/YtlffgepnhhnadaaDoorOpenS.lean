/- A law's shape and hurt, and slices of shapes, that came in. -/
import Derived.Test.YtlffgepnhhnadaaDoorOpen
import Derived.Test.YtlffgepnhhnadaaDoorHurtW
import Derived.Deep.Slices
namespace Go.Proofs.YtlffgepnhhnadaaDoor.Pl
open Go.ChangeShapes Go.WideShapes Go.ChangeAt Go.RowKit

theorem Tryd.cellsI : Tryd.prog.cellsOf 3 = 1 := by kernel_rfl
theorem Tryd.cellsU : Tryd.prog.cellsOf 52 = 1 := by kernel_rfl
theorem Tryd.cellsB : Tryd.prog.cellsOf 4 = 1 := by kernel_rfl
theorem Tryd.cellsS : Tryd.prog.cellsOf 54 = 6 := by kernel_rfl
theorem Tryd.cellsH : Tryd.prog.cellsOf 78 = 2 := by kernel_rfl
section
variable {H : Type} {enc : TypeId × Value → H} {w : World} {base : Nat} {spare : Nat → Bool} {held : Bool}
set_option maxRecDepth 100000 in
theorem shape_of_trod {fuel : Nat} {cs : List Value} {x : DataW H × List MemPlace} (h : DataW.trod enc Tryd.prog w base spare held fuel 54 cs = some x) : ∃ s : Shp, cs = s.cells ∧ s.ok := by
  obtain ⟨xs, n, _, _, hl, hx, hf⟩ := DataW.trod_struct Tryd.underlying54 h
  rw [Tryd.cellsS] at hl
  have hx : xs.length = 6 := hx
  match cs, hl with
  | [c0, c1, c2, c3, c4, c5], _ =>
    have f0 : DataW.trod enc Tryd.prog w base spare held n 3 (([c0, c1, c2, c3, c4, c5].drop 0).take (Tryd.prog.cellsOf 3)) = xs[0]? := hf 0 _ rfl
    rw [Tryd.cellsI, List.getElem?_eq_getElem (by omega)] at f0
    have f1 : DataW.trod enc Tryd.prog w base spare held n 3 (([c0, c1, c2, c3, c4, c5].drop 1).take (Tryd.prog.cellsOf 3)) = xs[1]? := hf 1 _ rfl
    rw [Tryd.cellsI, List.getElem?_eq_getElem (by omega)] at f1
    have f2 : DataW.trod enc Tryd.prog w base spare held n 3 (([c0, c1, c2, c3, c4, c5].drop 2).take (Tryd.prog.cellsOf 3)) = xs[2]? := hf 2 _ rfl
    rw [Tryd.cellsI, List.getElem?_eq_getElem (by omega)] at f2
    have f3 : DataW.trod enc Tryd.prog w base spare held n 52 (([c0, c1, c2, c3, c4, c5].drop 3).take (Tryd.prog.cellsOf 52)) = xs[3]? := hf 3 _ rfl
    rw [Tryd.cellsU, List.getElem?_eq_getElem (by omega)] at f3
    have f4 : DataW.trod enc Tryd.prog w base spare held n 52 (([c0, c1, c2, c3, c4, c5].drop 4).take (Tryd.prog.cellsOf 52)) = xs[4]? := hf 4 _ rfl
    rw [Tryd.cellsU, List.getElem?_eq_getElem (by omega)] at f4
    have f5 : DataW.trod enc Tryd.prog w base spare held n 4 (([c0, c1, c2, c3, c4, c5].drop 5).take (Tryd.prog.cellsOf 4)) = xs[5]? := hf 5 _ rfl
    rw [Tryd.cellsB, List.getElem?_eq_getElem (by omega)] at f5
    obtain ⟨n0, e0, _, _⟩ := DataW.trod_int Tryd.underlying3 f0
    obtain ⟨n1, e1, _, _⟩ := DataW.trod_int Tryd.underlying3 f1
    obtain ⟨n2, e2, _, _⟩ := DataW.trod_int Tryd.underlying3 f2
    obtain ⟨n3, e3, _, w3⟩ := DataW.trod_int Tryd.underlying52 f3
    obtain ⟨n4, e4, _, w4⟩ := DataW.trod_int Tryd.underlying52 f4
    obtain ⟨b5, e5, _⟩ := DataW.trod_bool Tryd.underlying4 f5
    simp at e0 e1 e2 e3 e4 e5
    subst e0 e1 e2 e3 e4 e5
    have h3 := bounds_u64 w3
    have h4 := bounds_u64 w4
    refine ⟨⟨n0, n1, n2, n3.toNat, n4.toNat, b5⟩, ?_, by simp only; omega, by simp only; omega⟩
    simp only [Shp.cells]
    rw [show ((n3.toNat : Nat) : Int) = n3 by omega, show ((n4.toNat : Nat) : Int) = n4 by omega]
set_option maxRecDepth 100000 in
theorem hurt_of_trod {fuel : Nat} {cs : List Value} {x : DataW H × List MemPlace} (h : DataW.trod enc Tryd.prog w base spare held fuel 78 cs = some x) : ∃ a m : Int, cs = [.int .i64 a, .int .i64 m] := by
  obtain ⟨xs, n, _, _, hl, hx, hf⟩ := DataW.trod_struct Tryd.underlying78 h
  rw [Tryd.cellsH] at hl
  have hx : xs.length = 2 := hx
  match cs, hl with
  | [c0, c1], _ =>
    have f0 : DataW.trod enc Tryd.prog w base spare held n 3 (([c0, c1].drop 0).take (Tryd.prog.cellsOf 3)) = xs[0]? := hf 0 _ rfl
    rw [Tryd.cellsI, List.getElem?_eq_getElem (by omega)] at f0
    have f1 : DataW.trod enc Tryd.prog w base spare held n 3 (([c0, c1].drop 1).take (Tryd.prog.cellsOf 3)) = xs[1]? := hf 1 _ rfl
    rw [Tryd.cellsI, List.getElem?_eq_getElem (by omega)] at f1
    obtain ⟨n0, e0, _, _⟩ := DataW.trod_int Tryd.underlying3 f0
    obtain ⟨n1, e1, _, _⟩ := DataW.trod_int Tryd.underlying3 f1
    simp at e0 e1
    subst e0 e1
    exact ⟨n0, n1, rfl⟩
end
section
variable {H : Type} {enc : TypeId × Value → H}
set_option maxRecDepth 100000 in
theorem open_shape {W : World} {base : Nat} {v : Value} {d : DataW H} {p : List MemPlace} (hval : Value.okWide Tryd.prog W .any base 54 v) (h : DataW.Trod enc Tryd.prog W 0 (fun _ => true) true 54 v d p) :
    ∃ s : Shp, v = .agg s.cells.toArray ∧ s.ok := by
  obtain ⟨cs, rfl, _⟩ := okWide_struct Tryd.underlying54 hval
  obtain ⟨fuel, hf⟩ := h
  obtain ⟨s, hs, hk⟩ := shape_of_trod hf
  exact ⟨s, by rw [← hs]; simp [Value.cells], hk⟩
set_option maxRecDepth 100000 in
theorem open_hurt {W : World} {base : Nat} {v : Value} {d : DataW H} {p : List MemPlace} (hval : Value.okWide Tryd.prog W .any base 78 v) (h : DataW.Trod enc Tryd.prog W 0 (fun _ => true) true 78 v d p) :
    ∃ a m : Int, v = .agg #[.int .i64 a, .int .i64 m] := by
  obtain ⟨cs, rfl, _⟩ := okWide_struct Tryd.underlying78 hval
  obtain ⟨fuel, hf⟩ := h
  obtain ⟨a, m, hs⟩ := hurt_of_trod hf
  refine ⟨a, m, ?_⟩
  have hs : cs.toList = [.int .i64 a, .int .i64 m] := hs
  rw [show cs = cs.toList.toArray by simp, hs]
/-- shapes that came in -/
def Shps (w : World) (v : Value) (l : List Shp) : Prop := Sl (fun _ => True) w v l.length (l.flatMap Shp.cells) ∧ ∀ s ∈ l, s.ok
theorem bytesS : Tryd.prog.bytesOf 54 = 48 := by kernel_rfl
theorem flat_cells : ∀ (l : List Shp) (i : Nat) (s : Shp), l[i]? = some s → ∀ j c, s.cells[j]? = some c → (l.flatMap Shp.cells)[i * 6 + j]? = some c
  | [], i, s, h, _, _, _ => by simp at h
  | a :: l, 0, s, h, j, c, hc => by
    simp at h; subst h
    have hj : j < a.cells.length := (List.getElem?_eq_some_iff.1 hc).1
    rw [List.flatMap_cons, Nat.zero_mul, Nat.zero_add, List.getElem?_append_left hj]; exact hc
  | a :: l, i + 1, s, h, j, c, hc => by
    have := flat_cells l i s (by simpa using h) j c hc
    rw [List.flatMap_cons, List.getElem?_append_right (by simp [Shp.cells]; omega)]
    rw [show (i + 1) * 6 + j - a.cells.length = i * 6 + j by simp [Shp.cells]; omega]
    exact this
theorem flat_back : ∀ (l : List Shp) (k : Nat) (c : Value), (l.flatMap Shp.cells)[k]? = some c → ∃ i s j, k = i * 6 + j ∧ l[i]? = some s ∧ s.cells[j]? = some c
  | [], k, c, h => by simp at h
  | a :: l, k, c, h => by
    rw [List.flatMap_cons] at h
    have h6 : a.cells.length = 6 := rfl
    by_cases hk : k < 6
    · rw [List.getElem?_append_left (by omega)] at h
      exact ⟨0, a, k, by omega, rfl, h⟩
    · rw [List.getElem?_append_right (by omega)] at h
      obtain ⟨i, s, j, h1, h2, h3⟩ := flat_back l _ c h
      exact ⟨i + 1, s, j, by omega, by simpa using h2, h3⟩
theorem each_shape : ∀ (n : Nat) (f : Nat → Option Shp), (∀ i, i < n → (f i).isSome = true) → ∃ l : List Shp, l.length = n ∧ ∀ i, i < n → l[i]? = f i
  | 0, _, _ => ⟨[], rfl, fun i h => by omega⟩
  | n + 1, f, h => by
    obtain ⟨l, h1, h2⟩ := each_shape n f (fun i hi => h i (by omega))
    obtain ⟨s, hs⟩ := Option.isSome_iff_exists.1 (h n (by omega))
    refine ⟨l ++ [s], by simp [h1], fun i hi => ?_⟩
    by_cases hin : i < n
    · rw [List.getElem?_append_left (by omega)]; exact h2 i hin
    · have : i = n := by omega
      subst this
      rw [List.getElem?_append_right (by omega), h1, Nat.sub_self, hs]; rfl
set_option maxRecDepth 100000 in
theorem open_shapes {W : World} {base : Nat} {v : Value} {d : DataW H} {p : List MemPlace} (hval : Value.okWide Tryd.prog W .any base 38 v) (h : DataW.Trod enc Tryd.prog W 0 (fun _ => true) true 38 v d p)
    (hsz : ∀ n ∈ d.weights Tryd.prog 38, n ≤ reachBytes) : ∃ l, Shps W v l := by
  obtain ⟨a1, len, cap, rfl⟩ := okWide_slice Tryd.underlying38 hval
  obtain ⟨fuel, hf⟩ := h
  rcases Go.Deep.open_slice Tryd.underlying38 hf with ⟨hcs, _⟩ | ⟨a, len', cap', m, n, D, Pl, hcs, _, hl, _, hm, hx, hi⟩
  · simp [Value.cells] at hcs
    obtain ⟨rfl, rfl, rfl⟩ := hcs
    exact ⟨[], Sl.nil _ _, by simp⟩
  · simp [Value.cells] at hcs
    obtain ⟨rfl, rfl, rfl⟩ := hcs
    simp only [if_true] at hm
    obtain rfl : cap = m := hm.symm
    simp only [Prod.mk.injEq] at hx
    obtain ⟨rfl, rfl⟩ := hx
    have hcap : cap ≤ 140737488351232 := by
      have := hsz (((List.range len).map D).length + (((List.range (cap - len)).map fun j => D (len + j)) : List (DataW H)).length |> (· * Tryd.prog.bytesOf 54)) (by
        simp only [DataW.weights, Tryd.underlying38]; exact List.mem_cons_self)
      simp only [bytesS, List.length_map, List.length_range] at this
      unfold reachBytes at this
      omega
    have hall : ∀ i, i < len → ∃ s : Shp, s.ok ∧ ∀ j c, s.cells[j]? = some c → W.cell? (a.add (i * 6 + j)) = some c := by
      intro i hil
      obtain ⟨cs', hc, ht⟩ := hi i (by omega)
      obtain ⟨s, rfl, hk⟩ := shape_of_trod ht
      rw [Tryd.cellsS] at hc
      obtain ⟨_, hcl, hat⟩ := World.cells?_some hc
      refine ⟨s, hk, fun j c hj => ?_⟩
      have hjl : j < 6 := (List.getElem?_eq_some_iff.1 hj).1
      have := hat j hjl
      rw [Go.Deep.add_add] at this
      rw [this]; exact hj
    obtain ⟨l, hll, hle⟩ := each_shape len (fun i => if h : i < len then some (Classical.choose (hall i h)) else none) (fun i h => by simp [h])
    have hlk : ∀ i s, l[i]? = some s → s.ok ∧ ∀ j c, s.cells[j]? = some c → W.cell? (a.add (i * 6 + j)) = some c := by
      intro i s hs
      have hil : i < len := by have := (List.getElem?_eq_some_iff.1 hs).1; omega
      rw [hle i hil, dif_pos hil] at hs
      cases hs
      exact Classical.choose_spec (hall i hil)
    refine ⟨l, ⟨some a, cap, by rw [hll], by omega, by omega, ?_⟩, fun s hs => ?_⟩
    · by_cases h0 : len = 0
      · left
        have : l = [] := List.eq_nil_of_length_eq_zero (by omega)
        rw [this]; rfl
      · obtain ⟨s0, hs0⟩ : ∃ s, l[0]? = some s := ⟨_, List.getElem?_eq_getElem (by omega)⟩
        have h00 := (hlk 0 s0 hs0).2 0 _ rfl
        obtain ⟨ab, ao, spot⟩ := a
        have hspot : spot = none := by simpa [Addr.add] using World.cell?_spot h00
        subst hspot
        refine .inr ⟨ab, ao, rfl, trivial, fun k c hk => ?_⟩
        obtain ⟨i, s, j, rfl, h2, h3⟩ := flat_back l k c hk
        have := (hlk i s h2).2 j c h3
        rw [addn] at this
        exact this
    · obtain ⟨i, hi⟩ := List.getElem?_of_mem hs
      exact (hlk i s hi).1
end
end Go.Proofs.YtlffgepnhhnadaaDoor.Pl
