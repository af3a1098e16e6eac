/- plumblaw27.framed and joined, walked. -/
import Derived.Test.YtlffgepnhhnadaaDoorOpenS
import Derived.Deep.RegionHeld3
import Derived.Deep.DeepMust
namespace Go.Proofs.YtlffgepnhhnadaaDoor.Pl
open Go.RowKit

/-- the blocks that neither list is in -/
def OkF (B : Nat) (tv rv : Value) (b : Nat) : Prop := B ≤ b ∧ tv.ownBlock ≠ some b ∧ rv.ownBlock ≠ some b
/-- a record of the call's own, apart from the lists -/
def RecB (B : Nat) (ok : Nat → Prop) (W : World) (v : Value) (l : List UInt8) : Prop := OwnB B W v l ∧ ∀ b, v.ownBlock = some b → ok b
theorem Each.atv {α : Type} {R : Value → α → Prop} {vs : List Value} {xs : List α} (h : Each R vs xs) : ∀ (i : Nat) (v : Value), vs[i]? = some v → ∃ x, xs[i]? = some x ∧ R v x := by
  induction h with
  | nil => intro i x h; simp at h
  | cons a _ ih =>
    intro i x h
    cases i with
    | zero => simp at h; subst h; exact ⟨_, rfl, a⟩
    | succ i => simpa using ih i x (by simpa using h)
/-- no two records lie in one block -/
def ApB (rs : List Value) : Prop := ∀ (i j : Nat) (u v : Value) (b : Nat), i < j → rs[i]? = some u → rs[j]? = some v → u.ownBlock = some b → v.ownBlock ≠ some b
theorem ApB.nil : ApB [] := fun i j u v b _ hu => by simp at hu
theorem ApB.snoc {rs : List Value} {f : Value} (h : ApB rs) (hf : ∀ (u : Value) (b : Nat), u ∈ rs → u.ownBlock = some b → f.ownBlock ≠ some b) : ApB (rs ++ [f]) := by
  intro i j u v b hij hu hv hb hb2
  have hl := (List.getElem?_eq_some_iff.1 hv).1
  rw [List.length_append, List.length_cons, List.length_nil] at hl
  rw [List.getElem?_append_left (by omega)] at hu
  by_cases hj : j < rs.length
  · rw [List.getElem?_append_left hj] at hv
    exact h i j u v b hij hu hv hb hb2
  · obtain rfl : j = rs.length := by omega
    rw [List.getElem?_append_right (by omega), Nat.sub_self] at hv
    simp only [List.getElem?_cons_zero, Option.some.injEq] at hv
    subst hv
    exact hf u b (List.mem_of_getElem? hu) hb hb2
/-- the blocks that neither list is in, nor a record -/
def OkT (B : Nat) (tv rv : Value) (rs : List Value) (b : Nat) : Prop := OkF B tv rv b ∧ ∀ u ∈ rs, u.ownBlock ≠ some b
/-- what framed's loop keeps: the trees and the records -/
structure FrS (w : World) (tv rv : Value) (gs : List G) (bs : List (List UInt8)) (W : World) : Prop where
  below : Below w.heap.size w W
  apart : ∀ b, tv.ownBlock = some b → rv.ownBlock ≠ some b
  both : ∃ vs rs, (W.ownsRow w.heap.size 51 4 tv gs.length vs ∧ IsGs (OkT w.heap.size tv rv rs) W gs vs) ∧ W.ownsRow w.heap.size 35 1 rv bs.length rs ∧ Each (RecB w.heap.size (OkF w.heap.size tv rv) W) rs bs ∧ ApB rs
theorem FrS.start (w : World) : FrS w (.slice none 0 0) (.slice none 0 0) [] [] w :=
  ⟨Below.refl _ _, (fun _ h => by cases h), ⟨[], [], ⟨World.ownsRow_nil _ _ _ _, by simp [IsGs]⟩, World.ownsRow_nil _ _ _ _, .nil, ApB.nil⟩⟩
theorem grown_own {W W' : World} {B : Nat} {v : Value} {e : TypeId} {k n : Nat} {xs : List Value} (h : W.ownsRow B e k v n xs) {W0 : World} (hg : W0.grownBy W' v.ownBlock) (h0 : Below W.heap.size W W0) (hB : B ≤ W.heap.size) : Below B W W' :=
  ((show Below B W W0 from h0.mono hB)).grown hg (Nat.le_trans hB h0.size) (fun k e => (World.ownsRow.lt h k e).1)
theorem ownB_same {B : Nat} {w w' : World} {v : Value} {l : List UInt8} (h : OwnB B w v l) (hk : ∀ x, v.ownBlock = some x → w'.heap[x]? = w.heap[x]?) : OwnB B w' v l := by
  refine ⟨h.1, ?_⟩
  rcases h.2 with hn | ⟨g, cap, cur, rfl, hB, hg, rest⟩
  · exact .inl hn
  · exact .inr ⟨g, cap, cur, rfl, hB, (hk g rfl).trans hg, rest⟩
/-- a tree and its record more -/
theorem FrS.next {w wr w3 w4 w5 : World} {tv rv fr tv' rv' : Value} {gs : List G} {bs : List (List UInt8)} {vs rs : List Value} {g : G} {cs : List Value} {b : List UInt8}
    (h : FrS w tv rv gs bs wr) (hb3 : Below wr.heap.size wr w3) (hg : IsG (fun x => wr.heap.size ≤ x ∧ fr.ownBlock ≠ some x) w3 g cs) (hf : OwnB wr.heap.size w3 fr b)
    (ht : wr.ownsRow w.heap.size 51 4 tv gs.length vs) (htg : IsGs (OkT w.heap.size tv rv rs) wr gs vs) (hr : wr.ownsRow w.heap.size 35 1 rv bs.length rs) (hrb : Each (RecB w.heap.size (OkF w.heap.size tv rv) wr) rs bs) (hap0 : ApB rs)
    (h4 : w4.ownsRow w.heap.size 51 4 tv' (gs.length + 1) (vs ++ cs)) (hg4 : (w3.alloc (.cells cs.toArray 51)).grownBy w4 tv.ownBlock) (ho4 : ∀ x, tv'.ownBlock = some x → tv.ownBlock = some x ∨ x = w3.heap.size + 1)
    (h5 : w5.ownsRow w.heap.size 35 1 rv' (bs.length + 1) (rs ++ [fr])) (hg5 : (w4.alloc (.cells #[fr] 35)).grownBy w5 rv.ownBlock) (ho5 : ∀ x, rv'.ownBlock = some x → rv.ownBlock = some x ∨ x = w4.heap.size + 1) :
    FrS w tv' rv' (gs ++ [g]) (bs ++ [b]) w5 := by
  have hs3 := hb3.size
  have hsw := h.below.size
  have hz3 := alloc_size w3 (.cells cs.toArray 51)
  have hz4 := alloc_size w4 (.cells #[fr] 35)
  have hs4 := hg4.size
  have hs5 := hg5.size
  have htl := World.ownsRow.lt ht
  have hrl := World.ownsRow.lt hr
  have hbl3 : Below w3.heap.size w3 (w3.alloc (.cells cs.toArray 51)) := (Below.refl _ _).alloc (Nat.le_refl _) _
  have hbl4 : Below w4.heap.size w4 (w4.alloc (.cells #[fr] 35)) := (Below.refl _ _).alloc (Nat.le_refl _) _
  have hkeep : ∀ x, x < w3.heap.size → tv.ownBlock ≠ some x → rv.ownBlock ≠ some x → w5.heap[x]? = w3.heap[x]? := fun x h1 h2 h3 =>
    (hg5.block x (by omega) (fun e => h3 e.symm)).trans ((hbl4.block x (by omega)).trans ((hg4.block x (by omega) (fun e => h2 e.symm)).trans (hbl3.block x h1)))
  have hok : ∀ x, x < w3.heap.size → w.heap.size ≤ x → tv.ownBlock ≠ some x → rv.ownBlock ≠ some x → OkF w.heap.size tv' rv' x := fun x h1 h2 h3 h4 =>
    ⟨h2, fun e => (ho4 x e).elim h3 (fun e => by omega), fun e => (ho5 x e).elim h4 (fun e => by omega)⟩
  have hnew : ∀ x, wr.heap.size ≤ x → tv.ownBlock ≠ some x ∧ rv.ownBlock ≠ some x := fun x hx => ⟨fun e => by have := (htl x e).2; omega, fun e => by have := (hrl x e).2; omega⟩
  have hb4 : Below w.heap.size w w4 := ((h.below.trans (hb3.mono hsw)).trans (hbl3.mono (by omega))).grown hg4 (by omega) (fun k e => (htl k e).1)
  have hb5 : Below w.heap.size w w5 := (hb4.trans (hbl4.mono (by omega))).grown hg5 (by omega) (fun k e => (hrl k e).1)
  have hap : ∀ x, tv'.ownBlock = some x → rv'.ownBlock ≠ some x := fun x e1 e2 => by
    have l4 := (World.ownsRow.lt h4 x e1).2
    rcases ho4 x e1 with e3 | e3
    · rcases ho5 x e2 with e4 | e4
      · exact h.apart x e3 e4
      · omega
    · rcases ho5 x e2 with e4 | e4
      · have := (hrl x e4).2; omega
      · omega
  have hrl2 : ∀ u ∈ rs, ∀ x, u.ownBlock = some x → x < wr.heap.size := fun u hu x hx => by
    obtain ⟨i, hi, rfl⟩ := List.mem_iff_getElem.1 hu
    obtain ⟨l, _, hv⟩ := hrb.atv i _ (List.getElem?_eq_getElem hi)
    exact (World.ownsRow.lt hv.1 x hx).2
  refine ⟨hb5, hap, ⟨vs ++ cs, rs ++ [fr], ⟨?_, ?_⟩, by rw [List.length_append]; exact h5, ?_, hap0.snoc fun u x hu hx hf2 => ?_⟩⟩
  · rw [List.length_append]
    refine World.ownsRow.kept (World.ownsRow.alloc h4 _) hg5 ?_
    cases hc : tv'.ownBlock with
    | none => exact .inl rfl
    | some x =>
      right
      intro e
      rcases ho4 x hc with e3 | e3
      · exact h.apart x e3 e.symm
      · have := (hrl x e.symm).2; omega
  · refine (IsGs.append (htg.mono (ok' := OkT w.heap.size tv rv rs) (fun x _ hx => hx) |> fun q => ?_) (IsGs.one ?_))
    · have q2 : IsGs (fun x => OkT w.heap.size tv rv rs x ∧ x < wr.heap.size) wr gs vs := q.mono fun x hx hk => ⟨hk, hx⟩
      exact (q2.keeps fun x o hx ho _ => by rw [hkeep x (by have := hx.2; omega) hx.1.1.2.1 hx.1.1.2.2, hb3.block x hx.2]; exact ho).mono fun x _ hx => ⟨hok x (by have := hx.2; omega) hx.1.1.1 hx.1.1.2.1 hx.1.1.2.2, fun u hu e => by
        rcases List.mem_append.1 hu with hu | hu
        · exact hx.1.2 u hu e
        · rw [List.mem_singleton.1 hu] at e
          have := (World.ownsRow.lt hf x e).1
          have := hx.2
          omega⟩
    · have q2 : IsG (fun x => (wr.heap.size ≤ x ∧ fr.ownBlock ≠ some x) ∧ x < w3.heap.size) w3 g cs := hg.mono fun x hx hk => ⟨hk, hx⟩
      exact (q2.keeps fun x o hx ho _ => by rw [hkeep x hx.2 (hnew x hx.1.1).1 (hnew x hx.1.1).2]; exact ho).mono fun x _ hx => ⟨hok x hx.2 (by have := hx.1.1; omega) (hnew x hx.1.1).1 (hnew x hx.1.1).2, fun u hu e => by
        rcases List.mem_append.1 hu with hu | hu
        · have := hrl2 u hu x e
          have := hx.1.1
          omega
        · rw [List.mem_singleton.1 hu] at e
          exact hx.1.2 e⟩
  · refine Each.append (hrb.imp fun v l hv => ?_) (.cons ?_ .nil)
    · refine ⟨?_, fun x hx => hok x (by have := (World.ownsRow.lt hv.1 x hx).2; omega) (hv.2 x hx).1 (hv.2 x hx).2.1 (hv.2 x hx).2.2⟩
      refine ownB_same hv.1 fun x hx => ?_
      rw [hkeep x (by have := (World.ownsRow.lt hv.1 x hx).2; omega) (hv.2 x hx).2.1 (hv.2 x hx).2.2, hb3.block x (World.ownsRow.lt hv.1 x hx).2]
    · have hl := World.ownsRow.lt hf
      refine ⟨?_, fun x hx => hok x (hl x hx).2 (by have := (hl x hx).1; omega) (hnew x (hl x hx).1).1 (hnew x (hl x hx).1).2⟩
      exact ownB_same (hf.mono (by omega)) fun x hx => hkeep x (hl x hx).2 (hnew x (hl x hx).1).1 (hnew x (hl x hx).1).2
  · have h1 := (World.ownsRow.lt hf x hf2).1
    have := hrl2 u hu x hx
    omega
/-- what framed gives -/
structure FramedU (w : World) (l : List Shp) (tv rv : Value) (vs rs : List Value) (w' : World) : Prop where
  below : Below w.heap.size w w'
  apart : ∀ b, tv.ownBlock = some b → rv.ownBlock ≠ some b
  tsl : w'.ownsRow w.heap.size 51 4 tv l.length vs
  tgs : IsGs (OkT w.heap.size tv rv rs) w' (l.map Shp.made) vs
  rsl : w'.ownsRow w.heap.size 35 1 rv l.length rs
  rbs : Each (RecB w.heap.size (OkF w.heap.size tv rv) w') rs (l.map Shp.bytes)
  rap : ApB rs
theorem framed_end {w W : World} {tv rv : Value} {l m : List Shp} (h : FrS w tv rv (m.map Shp.made) (m.map Shp.bytes) W) (hm : l = m) : ∃ tv' rv' vs rs, Ending.returned (.tuple #[tv, rv, .bool true]) = .returned (.tuple #[tv', rv', .bool true]) ∧ FramedU w l tv' rv' vs rs W := by
  subst hm
  obtain ⟨vs, rs, ⟨h1, h2⟩, h3, h4, h5⟩ := h.both
  rw [List.length_map] at h1 h3
  exact ⟨tv, rv, vs, rs, rfl, h.below, h.apart, h1, h2, h3, h4, h5⟩
set_option maxRecDepth 100000 in
set_option maxHeartbeats 2000000 in
theorem framed_any {v : Value} {l : List Shp} (w : World) (hv : Shps w v l) :
    Calls Tryd.prog 21 #[v] w fun e w' => ∃ tv rv vs rs, e = .returned (.tuple #[tv, rv, .bool true]) ∧ FramedU w (l.take 30) tv rv vs rs w' := by
  obtain ⟨⟨A, c, rfl, hc, hl2, hrow⟩, hok⟩ := hv
  have HR := Lib.hid (And.intro hrow hok)
  clear hrow hok
  go_enter Tryd.func21, Tryd.ntmps21
  go_wp2_with fail
  go_loopw [7, 5, 6] (fun i tv rv W => ∃ k : Nat, k ≤ l.length ∧ k ≤ 30 ∧ i = .int .i64 k ∧ Hid (FrS w tv rv ((l.take k).map Shp.made) ((l.take k).map Shp.bytes) W)) (fun i _ _ _ => l.length - (intOf i).toNat)
  case atStart => exact ⟨0, Nat.zero_le _, Nat.zero_le _, rfl, Lib.hid (FrS.start w)⟩
  case round =>
    obtain ⟨k, hk, hk30, rfl, HS⟩ := hrel
    by_cases hkl : k < l.length
    · by_cases hk3 : k < 30
      · have hki : (k : Int) < 30 := by omega
        have hki2 : (k : Int) < (l.length : Int) := by omega
        have hs : l[k]? = some l[k] := List.getElem?_eq_getElem hkl
        have hsk := HR.out.2 l[k] (List.getElem_mem hkl)
        obtain ⟨b, o, rfl, _, hbl, hcell⟩ := HR.out.1.at (by intro e; have h := flat_cells l k _ hs 0 _ rfl; rw [e] at h; simp at h)
        have hfc := flat_cells l k _ hs
        obtain ⟨s, hsd⟩ : ∃ s, s = l[k] := ⟨_, rfl⟩
        rw [← hsd] at hs hsk hfc
        have hbr := HS.out.below
        have cc : ∀ j c, s.cells[j]? = some c → wr.cell? ⟨b, o + k * 6 + j, none⟩ = some c := fun j c hj => by
          have := hcell _ _ (hfc j c hj)
          rw [← Nat.add_assoc] at this
          exact (hbr.cell (p := ⟨b, o + k * 6 + j, none⟩) hbl).trans this
        have s0 := cc 0 _ rfl
        have s1 := cc 1 _ rfl
        have s2 := cc 2 _ rfl
        have s3 := cc 3 _ rfl
        have s4 := cc 4 _ rfl
        have s5 := cc 5 _ rfl
        rw [Nat.add_zero] at s0
        have HT := Lib.hid (take_snoc hs)
        have hlk : ((l.take k).map Shp.made).length = k := by rw [List.length_map, List.length_take]; omega
        have hlk2 : ((l.take k).map Shp.bytes).length = k := by rw [List.length_map, List.length_take]; omega
        obtain ⟨vs, rs, ⟨htr, htg⟩, hrr, hrb, hap0⟩ := HS.out.both
        have HAP := Lib.hid hap0
        clear hap0
        have HM := Lib.hid (made_any s wr hsk)
        simp only [Shp.cells] at HM
        have HV := Lib.hid (And.intro htr (And.intro htg (And.intro hrr (And.intro hrb hsk))))
        have hsw := hbr.size
        have hcb : b < wr.heap.size := lt_of_cell s0
        clear hcell hfc hs hsd cc htr htg hrr hrb hsk
        go_wp2_with fail
        refine HM.out.mono ?_
        rintro e w1 ⟨cs, rfl, hG1, hb1⟩
        obtain ⟨ki, A1, n1, c1, A2, n2, c2, A3, n3, c3, rfl⟩ := geom_shape hG1
        obtain ⟨w2, hw2⟩ : ∃ w2, w2 = w1.alloc (.cells #[.int .i64 ki, .slice A1 n1 c1, .slice A2 n2 c2, .slice A3 n3 c3] 51) := ⟨_, rfl⟩
        have hb2 : Below w1.heap.size w1 w2 := by rw [hw2]; exact (Below.refl _ _).alloc (Nat.le_refl _) _
        have hx2 : w2.heap[w1.heap.size]? = some (.cells #[.int .i64 ki, .slice A1 n1 c1, .slice A2 n2 c2, .slice A3 n3 c3] 51 (0, 0)) := by rw [hw2]; exact World.alloc_heap_new _ _
        have hs1 := hb1.size
        have hs2 := hb2.size
        have hb12 : Below wr.heap.size wr w2 := hb1.trans (hb2.mono hs1)
        have hx2l := lt_of_heap hx2
        have g0 := cell_row (cs := [_, _, _, _]) (j := 0) hx2 rfl
        have g1 := cell_row (cs := [_, _, _, _]) (j := 1) hx2 rfl
        have g2 := cell_row (cs := [_, _, _, _]) (j := 2) hx2 rfl
        have g3 := cell_row (cs := [_, _, _, _]) (j := 3) hx2 rfl
        have s5 := (hb12.cell (p := ⟨b, o + k * 6 + 5, none⟩) hcb).trans s5
        have HSK : Hid (∀ W : World, Below w2.heap.size w2 W → W.cell? ⟨w1.heap.size, 0, none⟩ = some (.int .i64 ki) ∧ W.cell? ⟨w1.heap.size, 1, none⟩ = some (.slice A1 n1 c1) ∧ W.cell? ⟨w1.heap.size, 2, none⟩ = some (.slice A2 n2 c2) ∧ W.cell? ⟨w1.heap.size, 3, none⟩ = some (.slice A3 n3 c3) ∧ W.cell? ⟨b, o + k * 6 + 5, none⟩ = some (.bool s.lt)) :=
          Lib.hid fun W hW => ⟨(hW.cell (p := ⟨w1.heap.size, 0, none⟩) hx2l).trans g0, (hW.cell (p := ⟨w1.heap.size, 1, none⟩) hx2l).trans g1, (hW.cell (p := ⟨w1.heap.size, 2, none⟩) hx2l).trans g2, (hW.cell (p := ⟨w1.heap.size, 3, none⟩) hx2l).trans g3, (hW.cell (p := ⟨b, o + k * 6 + 5, none⟩) (by simp only; omega)).trans s5⟩
        have hG2 := (hG1.mono (ok' := fun x => wr.heap.size ≤ x ∧ x < w1.heap.size) fun x hx hk => ⟨hk, hx⟩).keeps (below_keeps hb2 _)
        have HF := Lib.hid (fun W (h : W.heap = w2.heap) => frame_made W HV.out.2.2.2.2 (hG2.keeps (w' := W) (fun x o _ ho _ => by rw [h]; exact ho)))
        have HB := Lib.hid (And.intro hb12 (And.intro hG2 hb2))
        have HX2 := Lib.hid hx2
        clear hG1 hG2 hb1 hb2 hb12 hx2 g0 g1 g2 g3 s0 s1 s2 s3 s4 s5 HM
        go_upto_region 7 with (fail)
        rw [← hw2]
        clear hw2
        go_region_held3 (fun W => W.cell? ⟨w1.heap.size, 0, none⟩ = some (.int .i64 ki) ∧ W.cell? ⟨w1.heap.size, 1, none⟩ = some (.slice A1 n1 c1) ∧ W.cell? ⟨w1.heap.size, 2, none⟩ = some (.slice A2 n2 c2) ∧ W.cell? ⟨w1.heap.size, 3, none⟩ = some (.slice A3 n3 c3) ∧ W.cell? ⟨b, o + k * 6 + 5, none⟩ = some (.bool s.lt))
          (first
            | exact HSK.out _ (below_drew0 _)
            | exact HSK.out _ HB3.out)
          ((first
            | (go_at_call 34
               refine (HF.out w2.drew rfl).mono ?_
               rintro e w3 ⟨fr, rfl, hfr, hb3⟩
               replace hb3 : Below w2.heap.size w2 w3 := below_drew1 hb3
               have HB3 := Lib.hid hb3
               have HFR := Lib.hid (show OwnB w2.heap.size w3 fr s.bytes from hfr)
               clear hb3 hfr)))
        have h12 := rec_len HV.out.2.2.2.2
        obtain ⟨h12a, _⟩ := h12
        have hrc : (12 : Int) ≤ (s.bytes.length : Int) := by omega
        have hs3 := HB3.out.size
        have hx3 := (HB3.out.block _ hx2l).trans (show w2.heap[w1.heap.size]? = some (.cells #[.int .i64 ki, .slice A1 n1 c1, .slice A2 n2 c2, .slice A3 n3 c3] 51 (0, 0)) from HX2.out)
        have g0 := cell_row (cs := [_, _, _, _]) (j := 0) hx3 rfl
        have g1 := cell_row (cs := [_, _, _, _]) (j := 1) hx3 rfl
        have g2 := cell_row (cs := [_, _, _, _]) (j := 2) hx3 rfl
        have g3 := cell_row (cs := [_, _, _, _]) (j := 3) hx3 rfl
        obtain ⟨FA, fc, hFA⟩ := HFR.out.shape
        subst hFA
        have ha3 := (Below.refl w3.heap.size w3).alloc (Nat.le_refl _) (.cells #[.int .i64 ki, .slice A1 n1 c1, .slice A2 n2 c2, .slice A3 n3 c3] 51)
        have hxa3 : (w3.alloc (.cells #[.int .i64 ki, .slice A1 n1 c1, .slice A2 n2 c2, .slice A3 n3 c3] 51)).heap[w3.heap.size]? = some (.cells #[.int .i64 ki, .slice A1 n1 c1, .slice A2 n2 c2, .slice A3 n3 c3] 51 (0, 0)) := World.alloc_heap_new _ _
        have hrb3 : Below wr.heap.size wr w3 := HB.out.1.trans (HB3.out.mono HB.out.1.size)
        have HO := Lib.hid (And.intro (ownsRow_below (ownsRow_below HV.out.1 hrb3) ha3) (And.intro hxa3 (And.intro ha3 (And.intro hrb3 (HB.out.2.1.keeps (below_keeps HB3.out _))))))
        rw [hlk] at HO
        clear hx3 ha3 hxa3 hrb3 h12a
        have HQ := Lib.hid (show (w3.alloc (.cells #[.int .i64 ki, .slice A1 n1 c1, .slice A2 n2 c2, .slice A3 n3 c3] 51)).ownsRow w.heap.size 35 1 u6 k rs from by
          have h := ownsRow_below (ownsRow_below HV.out.2.2.1 HO.out.2.2.2.1) HO.out.2.2.1
          rw [hlk2] at h; exact h)
        go_wp2_with (first
          | (at_builtin
             refine (list_appendBs rfl (.tmp 47) (.tmp 49) rfl u6 (by rfl) (by rfl) HR5.out.1 HR5.out.2.1 (by omega) (Nat.le_trans (by omega) HR5.out.2.2.size) ?_)
             intro q5 cap5 w5 ho5 hgr5 hq5 hlt5
             have HR6 := Lib.hid (And.intro ho5 (And.intro hgr5 hq5))
             clear ho5 hgr5 hq5)
          | (at_builtin
             refine (list_appendG rfl (.tmp 43) (.tmp 45) rfl u5 (by rfl) (by rfl) HO.out.1 (fun i u hi => cell_row (cs := [_, _, _, _]) HO.out.2.1 hi) (by simp [Value.oneCell']) (by omega) (Nat.le_trans (by omega) HO.out.2.2.1.size) ?_)
             intro q4 cap4 w4 ho4 hgr4 hq4 hlt4
             have hz4 := hgr4.size
             have HR4 := Lib.hid (And.intro ho4 (And.intro hgr4 hq4))
             have hk4 : w4.ownsRow w.heap.size 35 1 u6 k rs := World.ownsRow.kept HQ.out hgr4 (by
               cases hc : u6.ownBlock with
               | none => exact .inl rfl
               | some x => exact .inr (fun e => HS.out.apart x e.symm hc))
             have hb4 := (Below.refl w4.heap.size w4).alloc (Nat.le_refl _) (.cells #[.slice FA s.bytes.length fc] 35)
             have hx4 : (w4.alloc (.cells #[.slice FA s.bytes.length fc] 35)).cell? ⟨w4.heap.size, 0, none⟩ = some (.slice FA s.bytes.length fc) := cell_row (cs := [_]) (j := 0) (World.alloc_heap_new _ _) rfl
             have HR5 := Lib.hid (And.intro (World.ownsRow.alloc hk4 (.cells #[.slice FA s.bytes.length fc] 35)) (And.intro hx4 hb4))
             have hz3 := HO.out.2.2.1.size
             clear ho4 hgr4 hq4 hk4 hb4 hx4)
          | fail)
        go_roundw
        · have hz3 := alloc_size w3 (.cells #[.int .i64 ki, .slice A1 n1 c1, .slice A2 n2 c2, .slice A3 n3 c3] 51)
          have hz5 := alloc_size w4 (.cells #[.slice FA s.bytes.length fc] 35)
          refine ⟨k + 1, hkl, by omega, by simp, Lib.hid ?_⟩
          rw [HT.out, List.map_append, List.map_append]
          refine FrS.next HS.out HO.out.2.2.2.1 (cs := [_, _, _, _]) (HO.out.2.2.2.2.mono fun x _ hx => ⟨hx.1, fun e => by have := (World.ownsRow.lt HFR.out x e).1; have := hx.2; omega⟩) (HFR.out.mono (by omega)) HV.out.1 HV.out.2.1 HV.out.2.2.1 HV.out.2.2.2.1 HAP.out ?_ HR4.out.2.1 ?_ ?_ HR6.out.2.1 ?_
          · rw [hlk]; exact HR4.out.1
          · intro x hx
            simp only [Value.ownBlock, Option.some.injEq] at hx
            subst hx
            exact HR4.out.2.2.imp id (fun h => by rw [h, hz3])
          · rw [hlk2]; exact HR6.out.1
          · intro x hx
            simp only [Value.ownBlock, Option.some.injEq] at hx
            subst hx
            exact HR6.out.2.2.imp id (fun h => by rw [h, hz5])
        · simp [intOf]; omega
      · have hke : k = 30 := by omega
        subst hke
        go_wp2_with fail
        go_ret3
        exact framed_end HS.out rfl
    · have hke : l.take 30 = l.take k := by rw [List.take_of_length_le (by omega), List.take_of_length_le (by omega)]
      have HKE := Lib.hid hke
      clear hke
      go_wp2_with fail
      go_ret3
      exact framed_end HS.out HKE.out
end Go.Proofs.YtlffgepnhhnadaaDoor.Pl
