/- A tree that came in: its cells, and its size by the bulk of its reading. Condition: that bulk is at most 1048576. plumblaw27's StreamMends holds where its input is of bulk at most 1048576: the row, and the card that ties the error type's handle. No conditions beyond the card's own. -/
import Derived.Test.YtlffgepnhhnadaaGreatDoorRows
import Derived.Test.YtlffgepnhhnadaaGreatDoorMtP
import Derived.Deep.Slices
import Derived.WalkKit
import Derived.ProofKit
import Derived.OpenShut
import Derived.Test.YtlffgepnhhnadaaGreatDoorOpen
import Derived.Test.YtlffgepnhhnadaaGreatDoorTie
import Derived.Test.YtlffgepnhhnadaaGreatDoorCards
import Derived.Test.YtlffgepnhhnadaaGreatDoorMtI
import Derived.Deep.DeepHandedRow
import Derived.JoinedCond
namespace Go.Proofs.YtlffgepnhhnadaaGreatDoor.Pl
section
open Go.ChangeShapes Go.WideShapes Go.ChangeAt Go.RowKit

theorem gcellsPt : Tryz.prog.cellsOf 63 = 2 := by kernel_rfl
theorem gcellsG : Tryz.prog.cellsOf 27 = 4 := by kernel_rfl
theorem gcellsPs : Tryz.prog.cellsOf 23 = 1 := by kernel_rfl
theorem gcellsU : Tryz.prog.cellsOf 61 = 1 := by kernel_rfl
theorem gcellsI : Tryz.prog.cellsOf 3 = 1 := by kernel_rfl
theorem gcellsRs : Tryz.prog.cellsOf 24 = 1 := by kernel_rfl
theorem gcellsGs : Tryz.prog.cellsOf 25 = 1 := by kernel_rfl

instance : Inhabited G := ⟨.mk 0 [] [] []⟩
section
variable {H : Type} {enc : TypeId × Value → H}
theorem bulk_one_le (d : DataW H) : 1 ≤ Rows.uptoBulk d := by
  cases d with
  | lit l => cases l <;> simp [Rows.uptoBulk]
  | nil => simp [Rows.uptoBulk]
  | ptr d => simp [Rows.uptoBulk]
  | slice elems spare => simp [Rows.uptoBulk]
  | agg parts => simp [Rows.uptoBulk]
  | iface t d => simp [Rows.uptoBulk]
  | map entries => simp [Rows.uptoBulk]
  | held h => simp [Rows.uptoBulk]
theorem bulk_mem {d : DataW H} {l : List (DataW H)} (h : d ∈ l) : Rows.uptoBulk d ≤ Rows.uptoBulkAll l := by
  induction l with
  | nil => cases h
  | cons x r ih =>
    simp only [Rows.uptoBulkAll]
    rcases List.mem_cons.1 h with rfl | e
    · omega
    · have := ih e; omega
/-- what comes of the first n by index: all lists at once -/
theorem bulk_list {α : Type} (D : Nat → DataW H) (f : Nat → α) (sz : α → Nat) : ∀ (l : List Nat), (∀ i ∈ l, sz (f i) ≤ Rows.uptoBulk (D i)) → ((l.map f).map sz).sum ≤ Rows.uptoBulkAll (l.map D)
  | [], _ => Nat.zero_le _
  | i :: l, h => by
    have h1 := h i (by simp)
    have h2 := bulk_list D f sz l fun j hj => h j (by simp [hj])
    simp only [List.map_cons, List.sum_cons, Rows.uptoBulkAll]; omega
theorem bulk_len (l : List (DataW H)) : l.length ≤ Rows.uptoBulkAll l := by
  induction l with
  | nil => simp
  | cons x r ih => have := bulk_one_le x; simp only [Rows.uptoBulkAll, List.length_cons]; omega
theorem spot_none {W : World} {a : Addr} {v : Value} (h : W.cell? a = some v) : a.spot = none := World.cell?_spot h
theorem each_mapG {α : Type} {R : Value → α → Prop} (V : Nat → Value) (f : Nat → α) : ∀ (l : List Nat), (∀ i ∈ l, R (V i) (f i)) → Each R (l.map V) (l.map f)
  | [], _ => .nil
  | i :: l, h => .cons (h i (by simp)) (each_mapG V f l fun j hj => h j (by simp [hj]))
theorem ptCells_range (f : Nat → Pt) : ∀ (n i : Nat) (c : Value), (ptCells ((List.range n).map f))[i]? = some c → i < 2 * n ∧ c = (if i % 2 = 0 then .int .u64 (f (i / 2)).1 else .int .u64 (f (i / 2)).2) := by
  intro n i c h
  have hl : i < 2 * n := by
    have := (List.getElem?_eq_some_iff.1 h).1
    rw [ptCells_length, List.length_map, List.length_range] at this; exact this
  refine ⟨hl, ?_⟩
  have ha := ptCells_at ((List.range n).map f) (i / 2) (f (i / 2)) (by rw [List.getElem?_map, List.getElem?_range (by omega)]; rfl)
  by_cases he : i % 2 = 0
  · rw [if_pos he]
    have e : i / 2 * 2 = i := by omega
    rw [e, h] at ha
    exact Option.some.inj ha.1
  · rw [if_neg he]
    have e : i / 2 * 2 + 1 = i := by omega
    rw [e, h] at ha
    exact Option.some.inj ha.2

set_option maxRecDepth 100000 in
theorem open_pts {W : World} {fuel : Nat} {cs : List Value} {x : DataW H × List MemPlace} (h : DataW.trod enc Tryz.prog W 0 (fun _ => true) true fuel 23 cs = some x) (hb : Rows.uptoBulk x.1 ≤ 1048576) :
    ∃ v l, cs = [v] ∧ Pts (fun _ => True) W v l ∧ 1 + l.length ≤ Rows.uptoBulk x.1 := by
  rcases Go.Deep.open_slice Tryz.underlying23 h with ⟨rfl, rfl⟩ | ⟨a, len, cap, m, n, D, Pl, rfl, _, hl, _, hm, rfl, hi⟩
  · exact ⟨_, [], rfl, ⟨by simp, Sl.nil _ _⟩, by simp [Rows.uptoBulk]⟩
  · simp only [if_true] at hm
    subst hm
    rw [gcellsPt] at hi
    have hall : ∀ i, i < len → ∃ p : Pt, PtOk p ∧ W.cell? (a.add (i * 2)) = some (.int .u64 p.1) ∧ W.cell? ((a.add (i * 2)).add 1) = some (.int .u64 p.2) := fun i hil => by
      obtain ⟨cs', h1, h2⟩ := hi i (by omega)
      obtain ⟨_, hlen, hc⟩ := World.cells?_some h1
      match cs', hlen with
      | [c0, c1], _ =>
        obtain ⟨y0, y1, n', _, _, f0, f1⟩ := trod_struct2 Tryz.underlying63 h2
        simp only [gcellsU, List.drop_zero, List.take_succ_cons, List.take_zero, List.drop_succ_cons] at f0 f1
        obtain ⟨z0, e0, _, b0⟩ := DataW.trod_int Tryz.underlying61 f0
        obtain ⟨z1, e1, _, b1⟩ := DataW.trod_int Tryz.underlying61 f1
        have w0 := bounds_u64 b0
        have w1 := bounds_u64 b1
        have c0' := hc 0 (by omega)
        have c1' := hc 1 (by omega)
        simp only [List.cons.injEq, and_true] at e0 e1
        subst e0 e1
        refine ⟨(z0.toNat, z1.toNat), ⟨by simp only; omega, by simp only; omega⟩, ?_, ?_⟩
        · rw [Int.toNat_of_nonneg w0.1]
          simpa [Addr.add] using c0'
        · rw [Int.toNat_of_nonneg w1.1]
          exact c1'
    obtain ⟨f, hf⟩ := Go.Deep.choose_lt (α := Pt) hall
    have hbl := bulk_len ((List.range len).map D)
    rw [List.length_map, List.length_range] at hbl
    simp only [Rows.uptoBulk] at hb
    refine ⟨_, (List.range len).map f, rfl, ⟨fun p hp => ?_, some a, _, by rw [List.length_map, List.length_range], by simpa using hl, by simp; omega, ?_⟩, by simp only [Rows.uptoBulk, List.length_map, List.length_range]; omega⟩
    · obtain ⟨i, hi', rfl⟩ := List.mem_map.1 hp
      exact (hf i (List.mem_range.1 hi')).1
    · by_cases h0 : len = 0
      · left; subst h0; rfl
      obtain ⟨ab, ao, spot⟩ := a
      have hspot : spot = none := by simpa [Addr.add] using spot_none (hf 0 (by omega)).2.1
      subst hspot
      refine .inr ⟨ab, ao, rfl, trivial, fun i c hc => ?_⟩
      obtain ⟨h1, h2⟩ := ptCells_range f len i c hc
      obtain ⟨_, k1, k2⟩ := hf (i / 2) (by omega)
      subst h2
      by_cases he : i % 2 = 0
      · rw [if_pos he]
        rw [addn] at k1
        rw [show i = i / 2 * 2 by omega]
        simpa using k1
      · rw [if_neg he]
        rw [addn, addn] at k2
        rw [show ao + i = ao + i / 2 * 2 + 1 by omega]
        exact k2
theorem geoms_range {W : World} (F : Nat → G) (C : Nat → List Value) : ∀ (l : List Nat), (∀ i ∈ l, IsG (fun _ => True) W (F i) (C i)) → IsGs (fun _ => True) W (l.map F) (l.map C).flatten
  | [], _ => by simp [IsGs]
  | i :: l, h => by
    simp only [List.map_cons, IsGs, List.flatten_cons]
    exact ⟨_, _, rfl, h i (by simp), geoms_range F C l fun j hj => h j (by simp [hj])⟩
theorem flat4 (C : Nat → List Value) : ∀ (n : Nat) (k : Nat), (∀ i, i < n → (C (k + i)).length = 4) → ∀ (i : Nat) (c : Value), (((List.range n).map fun j => C (k + j)).flatten)[i]? = some c → i < 4 * n ∧ (C (k + i / 4))[i % 4]? = some c
  | 0, k, _, i, c, h => by simp at h
  | n + 1, k, hc, i, c, h => by
    rw [List.range_succ_eq_map, List.map_cons, List.flatten_cons, Nat.add_zero] at h
    have h4 := hc 0 (by omega)
    rw [Nat.add_zero] at h4
    by_cases hi : i < 4
    · rw [List.getElem?_append_left (by omega)] at h
      refine ⟨by omega, ?_⟩
      rw [show i / 4 = 0 by omega, show i % 4 = i by omega, Nat.add_zero]; exact h
    · rw [List.getElem?_append_right (by omega), h4, List.map_map] at h
      have ih := flat4 C n (k + 1) (fun j hj => by have := hc (j + 1) (by omega); rw [show k + 1 + j = k + (j + 1) by omega]; exact this) (i - 4) c (by
        rw [← h]; congr 3; funext j; simp only [Function.comp]; congr 1; omega)
      refine ⟨by omega, ?_⟩
      rw [show k + i / 4 = k + 1 + (i - 4) / 4 by omega, show i % 4 = (i - 4) % 4 by omega]
      exact ih.2
theorem sizeGs_sum : ∀ (p : List G), sizeGs p = (p.map sizeG).sum
  | [] => rfl
  | g :: p => by simp only [sizeGs, List.map_cons, List.sum_cons, sizeGs_sum p]

set_option maxRecDepth 100000 in
theorem open_geom {W : World} : ∀ (fuel : Nat) {cs : List Value} {x : DataW H × List MemPlace}, DataW.trod enc Tryz.prog W 0 (fun _ => true) true fuel 27 cs = some x → Rows.uptoBulk x.1 ≤ 1048576 →
    ∃ g, IsG (fun _ => True) W g cs ∧ sizeG g ≤ Rows.uptoBulk x.1 := by
  intro fuel
  induction fuel using Nat.strongRecOn with
  | _ fuel ih =>
  intro cs x h hb
  obtain ⟨xs, n, hfn, rfl, hcl, hxl, hf⟩ := DataW.trod_struct Tryz.underlying27 h
  rw [gcellsG] at hcl
  match cs, hcl, xs, hxl, hf, hb with
  | [c0, c1, c2, c3], _, [x0, x1, x2, x3], _, hf, hb =>
  have f0 : DataW.trod enc Tryz.prog W 0 (fun _ => true) true n 3 (([c0, c1, c2, c3].drop 0).take (Tryz.prog.cellsOf 3)) = some x0 := hf 0 _ rfl
  rw [gcellsI] at f0
  have f1 : DataW.trod enc Tryz.prog W 0 (fun _ => true) true n 23 (([c0, c1, c2, c3].drop 1).take (Tryz.prog.cellsOf 23)) = some x1 := hf 1 _ rfl
  rw [gcellsPs] at f1
  have f2 : DataW.trod enc Tryz.prog W 0 (fun _ => true) true n 24 (([c0, c1, c2, c3].drop 2).take (Tryz.prog.cellsOf 24)) = some x2 := hf 2 _ rfl
  rw [gcellsRs] at f2
  have f3 : DataW.trod enc Tryz.prog W 0 (fun _ => true) true n 25 (([c0, c1, c2, c3].drop 3).take (Tryz.prog.cellsOf 25)) = some x3 := hf 3 _ rfl
  rw [gcellsGs] at f3
  simp only [List.drop_zero, List.take_succ_cons, List.take_zero, List.drop_succ_cons] at f0 f1 f2 f3
  simp only [Rows.uptoBulk, Rows.uptoBulkAll, List.map_cons, List.map_nil] at hb ⊢
  obtain ⟨k, e0, _, _⟩ := DataW.trod_int Tryz.underlying3 f0
  simp only [List.cons.injEq, and_true] at e0
  subst e0
  obtain ⟨v1, ln, e1, h1, s1⟩ := open_pts f1 (by omega)
  simp only [List.cons.injEq, and_true] at e1
  subst e1
  -- the rings
  have hrings : ∃ r vs, Sl (fun _ => True) W c2 r.length vs ∧ Each (Pts (fun _ => True) W) vs r ∧ (r.map fun x => 1 + x.length).sum ≤ Rows.uptoBulk x2.1 := by
    rcases Go.Deep.open_slice1 Tryz.underlying24 gcellsPs f2 with ⟨e2, rfl⟩ | ⟨a, len, cap, m, n', V, D, Pl, e2, _, hl, _, hm, rfl, hi⟩
    · simp only [List.cons.injEq, and_true] at e2
      subst e2
      exact ⟨[], [], Sl.nil _ _, .nil, by simp⟩
    · simp only [List.cons.injEq, and_true] at e2
      subst e2
      simp only [if_true] at hm
      obtain rfl : cap = m := hm.symm
      have hB : Rows.uptoBulkAll ((List.range len).map D) ≤ 1048576 := by simp only [Rows.uptoBulk] at hb; omega
      have hbi : ∀ i, i < len → Rows.uptoBulk (D i) ≤ 1048576 := fun i hil => by
        refine Nat.le_trans ?_ hB
        have hmem : D i ∈ (List.range len).map D := List.mem_map.2 ⟨i, List.mem_range.2 hil, rfl⟩
        exact bulk_mem hmem
      have hall : ∀ i, i < len → ∃ l, Pts (fun _ => True) W (V i) l ∧ 1 + l.length ≤ Rows.uptoBulk (D i) := fun i hil => by
        obtain ⟨v, l, e, h1, h2⟩ := open_pts (hi i (by omega)).2 (hbi i hil)
        simp only [List.cons.injEq, and_true] at e
        subst e
        exact ⟨l, h1, h2⟩
      obtain ⟨f, hfm⟩ := Go.Deep.choose_lt (α := List Pt) hall
      have hlen : len ≤ 1048576 := by
        have := bulk_len ((List.range len).map D)
        rw [List.length_map, List.length_range] at this
        omega
      have hsum := bulk_list D f (fun x => 1 + x.length) (List.range len) fun i hil => (hfm i (List.mem_range.1 hil)).2
      refine ⟨(List.range len).map f, (List.range len).map V, ⟨some a, _, by rw [List.length_map, List.length_range], by simpa using hl, by simp; omega, ?_⟩, each_mapG V f _ fun i hi => (hfm i (List.mem_range.1 hi)).1, by simp only [Rows.uptoBulk]; omega⟩
      by_cases h0 : len = 0
      · left; subst h0; rfl
      obtain ⟨ab, ao, spot⟩ := a
      have hspot : spot = none := by simpa [Addr.add] using spot_none (hi 0 (by omega)).1
      subst hspot
      refine .inr ⟨ab, ao, rfl, trivial, fun i c hc => ?_⟩
      have hil : i < len := by have := (List.getElem?_eq_some_iff.1 hc).1; simpa using this
      have hcj := (hi i (by omega)).1
      rw [addn] at hcj
      rw [hcj]
      rw [List.getElem?_map, List.getElem?_range hil] at hc
      simpa using hc
  obtain ⟨r, vs, hr1, hr2, hr3⟩ := hrings
  have hparts : ∃ p ps, Sl (fun _ => True) W c3 p.length ps ∧ IsGs (fun _ => True) W p ps ∧ sizeGs p ≤ Rows.uptoBulk x3.1 := by
    rcases DataW.trod_slice Tryz.underlying25 f3 with ⟨e3, rfl⟩ | ⟨a, len, cap, elems, rest, n', hn', e3, rfl, _, hl, _, hlen, hel, _, _⟩
    · simp only [List.cons.injEq, and_true] at e3
      subst e3
      exact ⟨[], [], Sl.nil _ _, by simp [IsGs], by simp [sizeGs]⟩
    · simp only [List.cons.injEq, and_true] at e3
      subst e3
      have hB : Rows.uptoBulkAll (elems.map (·.1)) ≤ 1048576 := by simp only [Rows.uptoBulk] at hb; omega
      have hall : ∀ i, i < len → ∃ gc : G × List Value, W.cells? 0 (a.add (i * 4)) 4 = some gc.2 ∧ IsG (fun _ => True) W gc.1 gc.2 ∧ ∃ y, elems[i]? = some y ∧ sizeG gc.1 ≤ Rows.uptoBulk y.1 := fun i hil => by
        obtain ⟨y, hy⟩ : ∃ y, elems[i]? = some y := ⟨_, List.getElem?_eq_getElem (by omega)⟩
        have hE := hel i hil
        rw [hy, gcellsG] at hE
        cases hc : W.cells? 0 (a.add (i * 4)) 4 with
        | none => rw [hc] at hE; cases hE
        | some cs' =>
          rw [hc] at hE
          simp only [Option.bind_some] at hE
          have hby : Rows.uptoBulk y.1 ≤ 1048576 := Nat.le_trans (bulk_mem (List.mem_map.2 ⟨y, List.mem_of_getElem? hy, rfl⟩)) hB
          obtain ⟨g, h1, h2⟩ := ih n' (by omega) hE hby
          exact ⟨(g, cs'), rfl, h1, y, hy, h2⟩
      obtain ⟨f, hfm⟩ := Go.Deep.choose_lt (α := G × List Value) hall
      have hsz : sizeGs ((List.range len).map fun i => (f i).1) ≤ Rows.uptoBulkAll (elems.map (·.1)) := by
        have hD := bulk_list (fun i => ((elems[i]?).map (·.1)).getD .nil) (fun i => (f i).1) sizeG (List.range len) fun i hil => by
          obtain ⟨_, _, y, hy, hs⟩ := hfm i (List.mem_range.1 hil)
          rw [hy]; exact hs
        rw [sizeGs_sum]
        refine Nat.le_trans hD (Nat.le_of_eq ?_)
        congr 1
        refine List.ext_getElem? fun i => ?_
        rw [List.getElem?_map, List.getElem?_map]
        by_cases hil : i < len
        · rw [List.getElem?_range hil]
          obtain ⟨_, _, y, hy, _⟩ := hfm i hil
          simp [hy]
        · rw [List.getElem?_eq_none (by simp; omega), List.getElem?_eq_none (by omega)]; rfl
      have hlen2 : len ≤ 1048576 := by
        have := sizeGs_len ((List.range len).map fun i => (f i).1)
        rw [List.length_map, List.length_range] at this
        omega
      refine ⟨(List.range len).map fun i => (f i).1, ((List.range len).map fun i => (f i).2).flatten, ⟨some a, cap, by simp, by simpa using hl, by simp; omega, ?_⟩, geoms_range (fun i => (f i).1) (fun i => (f i).2) _ fun i hi => (hfm i (List.mem_range.1 hi)).2.1, by simp only [Rows.uptoBulk]; omega⟩
      by_cases h0 : len = 0
      · left; subst h0; rfl
      have hcell : ∀ i, i < len → ∀ j c, ((f i).2)[j]? = some c → W.cell? ((a.add (i * 4)).add j) = some c := fun i hil j c hc => by
        obtain ⟨_, hl4, he⟩ := World.cells?_some (hfm i hil).1
        rw [he j (by rw [← hl4]; exact (List.getElem?_eq_some_iff.1 hc).1)]; exact hc
      have h4 : ∀ i, i < len → ((f i).2).length = 4 := fun i hil => (World.cells?_some (hfm i hil).1).2.1
      obtain ⟨ab, ao, spot⟩ := a
      have hspot : spot = none := by
        obtain ⟨c, hc⟩ : ∃ c, ((f 0).2)[0]? = some c := ⟨_, List.getElem?_eq_getElem (by rw [h4 0 (by omega)]; omega)⟩
        simpa [Addr.add] using spot_none (hcell 0 (by omega) 0 c hc)
      subst hspot
      refine .inr ⟨ab, ao, rfl, trivial, fun i c hc => ?_⟩
      obtain ⟨hi4, hcc⟩ := flat4 (fun i => (f i).2) len 0 (fun i hil => by rw [Nat.zero_add]; exact h4 i hil) i c (by simpa using hc)
      rw [Nat.zero_add] at hcc
      have := hcell (i / 4) (by omega) (i % 4) c hcc
      rw [addn, addn] at this
      rw [show ao + i = ao + i / 4 * 4 + i % 4 by omega]
      exact this
  obtain ⟨p, ps, hp1, hp2, hp3⟩ := hparts
  refine ⟨.mk k ln r p, ?_, ?_⟩
  · simp only [IsG]
    exact ⟨_, _, _, rfl, h1, ⟨vs, hr1, hr2⟩, ps, hp1, hp2⟩
  · have b0 := bulk_one_le x0.1
    simp only [sizeG]
    omega
end
end
section
open Go.ChangeShapes Go.WideShapes Go.ChangeAt Go.RowKit

theorem mends_reads (os : Os) {H : Type} (enc : TypeId × Value → H) : ∃ places, DataW.whole enc Tryz.prog ((laidWorld os).forCall (fun _ _ => 0) ⟨#[], #[.slice none 0 0, .int .i64 0, .agg #[.int .i64 0, .slice none 0 0, .slice none 0 0, .slice none 0 0]], []⟩).memory Tryz.f3.params.toList Rows.streamMendsSpec.vars false (#[.slice none 0 0, .int .i64 0, .agg #[.int .i64 0, .slice none 0 0, .slice none 0 0, .slice none 0 0]] : Array Value).toList 8 =
    some ([.nil, .lit (.int .i64 0), .agg [.lit (.int .i64 0), .nil, .nil, .nil]], [], places) :=
  ⟨[], by kernel_rfl⟩

set_option maxRecDepth 100000 in
theorem streamMends_lifted (os : Os) (started : os.Started) (H : Type) (enc : TypeId × Value → H) (F : Stop.Interp) :
    ReturnsInHanded {} Tryz.checked os 3 .any ((Rows.OpenSpec.upto Rows.streamMendsSpec).preRow enc Tryz.prog Tryz.f3 Rows.streamMendsUptoRow.domain false Rows.streamMendsUptoRow.laid)
      (((Rows.OpenSpec.upto Rows.streamMendsSpec).at F).post enc Tryz.prog Tryz.f3 false true false false) := by
  obtain ⟨places, hx⟩ := mends_reads os enc
  refine returnsInHanded_of_row (C := Tryz.checked) (s := Rows.OpenSpec.upto Rows.streamMendsSpec) own started (by kernel_rfl) Tryz.func3
    (witness_row_at (enc := enc) (C := Tryz.checked) false (laidWorld os) #[.slice none 0 0, .int .i64 0, .agg #[.int .i64 0, .slice none 0 0, .slice none 0 0, .slice none 0 0]] rfl (by kernel_rfl) (by kernel_rfl) (by kernel_rfl)
      (OpenSpec.preRow_of_cond 8 hx (by kernel_rfl) (fun k hk => by cases hk; kernel_rfl) (by kernel_rfl) (laidWorld_met os _))) ?_
  intro W base args ds gs before hval0 hW _ hcond hsz0 hL _ _
  have hsz : (DataW.weightsEach Tryz.prog (Tryz.f3.params.toList ++ []) (ds ++ gs)).all (· ≤ reachBytes) = true := hsz0
  have hval : ∀ (j : Nat) t v, Tryz.f3.params[j]? = some t → args[j]? = some v → Value.okWide Tryz.prog W .any base t v := hval0
  have hW' := hW
  obtain ⟨p, q, hA0, hV0, rfl, hfz, hnd⟩ := hW
  have hA : DataW.TrodAll enc Tryz.prog W 0 (fun _ => true) true Tryz.f3.params.toList args.toList ds p := hA0
  have hV : DataW.TrodVars enc Tryz.prog W (fun _ => true) [] gs q := hV0
  rw [Tryz.params3] at hA hval hsz
  have hlt := DataW.TrodAll.lt hA
  obtain ⟨v0, v1, v2, d0, d1, d2, p0, p1, p2, rfl, rfl, rfl, h0, h1, h2⟩ := trodAll_three hA
  obtain ⟨rfl, rfl⟩ := trodVars_none hV
  have hbulk : Rows.uptoBulkAll ([d0, d1, d2] ++ []) ≤ 1048576 := of_decide_eq_true (hcond _ rfl)
  simp only [List.append_nil, Rows.uptoBulkAll] at hbulk
  obtain ⟨l0, k0⟩ := open_bytes (hval 0 22 v0 rfl rfl) h0 (fun n hn => of_decide_eq_true (List.all_eq_true.1 hsz n (DataW.weights_mem_each (j := 0) rfl rfl n hn)))
  have h1' := h1
  obtain ⟨a1, rfl, rfl, rfl, w1⟩ := open_int Tryz.underlying3 (hval 1 3 v1 rfl rfl) h1'
  have hgeo : ∃ g cs, v2 = .agg cs ∧ IsG (fun _ => True) W g cs.toList ∧ sizeG g ≤ 1048576 := by
    obtain ⟨cs, rfl⟩ : ∃ cs : Array Value, v2 = .agg cs := by
      have hv := hval 2 27 v2 rfl rfl
      simp only [Value.okWide, Tryz.underlying27] at hv
      obtain ⟨cs, h1, _⟩ := hv
      exact ⟨cs, h1⟩
    obtain ⟨fuel, hf⟩ := h2
    have hb2 : Rows.uptoBulk d2 ≤ 1048576 := by omega
    obtain ⟨g, hg1, hg2⟩ := open_geom fuel hf hb2
    have hg3 : sizeG g ≤ Rows.uptoBulk d2 := hg2
    exact ⟨g, cs, rfl, hg1, by omega⟩
  obtain ⟨g, cs, rfl, hg, hgs⟩ := hgeo
  clear hA0 hval0
  simp only [List.append_nil] at hW'
  have hm := mends_any a1 W k0 hg hgs (errT_of_laid hL)
  rw [show cs.toList.toArray = cs by simp] at hm
  refine hm.mono fun e W' ⟨he, hgb⟩ => ?_
  subst he
  exact ⟨_, rfl, _, _, _, [], _, [], hW', trodAll_cons_mk (shut_bool Tryz.underlying4 _) trodAll_mk0,
    (trodAll_cons_mk (Below.trod laidOut (by kernel_rfl) (of_decide_eq_true (by kernel_rfl)) h0 hgb (fun x hx => hlt x (by simp [hx]))) (trodAll_cons_mk (shut_int Tryz.underlying3 w1) (trodAll_cons_mk (Below.trod laidOut (by kernel_rfl) (of_decide_eq_true (by kernel_rfl)) h2 hgb (fun x hx => hlt x (by simp [hx]))) trodAll_mk0))), rfl, hgb.frame _, fun h => by cases h⟩

theorem streamMends_over : Rows.StreamMendsUptoSaid :=
  OpenClaim.holds_of_cond 3 Tryz.f3 rfl rfl rfl rfl rfl rfl rfl ⟨rfl, rfl, rfl, rfl, rfl⟩ rfl rfl rfl rfl rfl (by kernel_rfl) Tryz.func3 (by kernel_rfl)
    (of_decide_eq_true (by kernel_rfl)) (by unfold Func.isWrapper; rw [if_neg (of_decide_eq_false (by kernel_rfl))]; exact ⟨rfl, rfl⟩)
    (fun os started H enc _ F => by rw [OpenClaim.pre_eq_preRow]; exact streamMends_lifted os started H enc F)

theorem streamMends_proved : Rows.StreamMendsUptoCardSaid :=
  Claim7.holds_tied_plain_at .later [] [.handle] true (true, "06e6efae8f17e31a35640d9aa90fbd7671969bcb6d46ad4c839e8496272aa92b") true
    streamMends_over (fun _ h => by cases h) (by kernel_rfl) (fun _ h => by cases h) streamMendsUpto_row_tie rfl ⟨rfl, rfl⟩ (by kernel_rfl) rfl
    (fun f fn hf hfn => by
      obtain rfl : f = 3 := Option.some.inj ((show Tryz.prog.funcNamed "plumb/plumblaw27.StreamMends" = some 3 by kernel_rfl).symm.trans hf) |>.symm
      obtain rfl : fn = Tryz.f3 := (Option.some.inj (Tryz.func3.symm.trans hfn)).symm
      exact ⟨by kernel_rfl, fun j t ht => by
        rw [Tryz.params3] at ht
        have h3 : t = 22 ∨ t = 3 ∨ t = 27 := by
          rcases j with _ | _ | _ | j
          · left; simpa using ht.symm
          · right; left; simpa using ht.symm
          · right; right; simpa using ht.symm
          · simp at ht
        rcases h3 with rfl | rfl | rfl
        · exact (show Tryz.prog.wantsStandIn 22 = false by kernel_rfl)
        · exact (show Tryz.prog.wantsStandIn 3 = false by kernel_rfl)
        · exact (show Tryz.prog.wantsStandIn 27 = false by kernel_rfl)⟩)
    (by kernel_rfl)
#print axioms streamMends_proved
end
end Go.Proofs.YtlffgepnhhnadaaGreatDoor.Pl
