/- stream.Frame, walked. -/
import Derived.Test.YtlffgepnhhnadaaDoorStr
import Derived.Lib.SlBytesConst
namespace Go.Proofs.YtlffgepnhhnadaaDoor.Pl
open Go.RowKit

/-- a record without its sum, and with it -/
def headB (wb : List UInt8) : List UInt8 := markB ++ encB 4 wb.length false ++ wb
def frameB (wb : List UInt8) : List UInt8 := headB wb ++ encB 4 (sumR (headB wb)) false
/-- what Frame gives -/
def FramePost (w : World) (g : G) (little : Bool) (e : Ending) (w' : World) : Prop := ∃ r er, e = .returned (.tuple #[r, er]) ∧ Below w.heap.size w w' ∧
  match checkR g with
  | some x => r = .slice none 0 0 ∧ IsErr (fun b => w.heap.size ≤ b) w' er (some x)
  | none => if 65536 < (encG [little] g 0).length then r = .slice none 0 0 ∧ IsErr (fun b => w.heap.size ≤ b) w' er (some (0, 274))
    else OwnB w.heap.size w' r (frameB (encG [little] g 0)) ∧ er = .nilIface
theorem OwnB.shape {B : Nat} {w : World} {v : Value} {l : List UInt8} (h : OwnB B w v l) : ∃ A c, v = .slice A l.length c := by
  rcases h.2 with ⟨rfl, hz⟩ | ⟨g, c, cur, rfl, _⟩
  · exact ⟨_, _, by rw [hz]⟩
  · exact ⟨_, _, rfl⟩
theorem OwnB.under {B : Nat} {w w' : World} {v : Value} {l : List UInt8} (h : OwnB B w v l) (hb : Below w.heap.size w w') : OwnB B w' v l := ownsRow_below h hb

theorem cell_rowF {w : World} {g : Nat} {cs : List Value} {t : TypeId} {f : Nat × Nat} (h : w.heap[g]? = some (.cells cs.toArray t f)) {j : Nat} {x : Value} (hj : cs[j]? = some x) : w.cell? ⟨g, j, none⟩ = some x := by
  simp [World.cell?, h, hj]
theorem encG_ne (os : List Bool) (g : G) (n : Nat) : encG os g n ≠ [] := by
  obtain ⟨k, l, r, p⟩ := g
  simp [encG]

set_option maxRecDepth 100000 in
set_option maxHeartbeats 1000000 in
theorem Frame_any {ok : Nat → Prop} {g : G} {cs : List Value} (little : Bool) (w : World) (hg : IsG ok w g cs) (hd : depth g ≤ 1152921504606846975) (hsm : SmallG g) (hl : checkR g = none → (encG [little] g 0).length ≤ 70368744177664) (hb : checkR g = none → begunG g ≤ 70368744177664) :
    Calls Tryd.prog 34 #[.agg cs.toArray, .bool little] w (FramePost w g little) := by
  obtain ⟨ki, A1, n1, c1, A2, n2, c2, A3, n3, c3, rfl⟩ := geom_shape hg
  obtain ⟨w1, hw1⟩ : ∃ w1, w1 = w.alloc (.cells #[.int .i64 ki, .slice A1 n1 c1, .slice A2 n2 c2, .slice A3 n3 c3] 51) := ⟨_, rfl⟩
  have hb1 : Below w.heap.size w w1 := by rw [hw1]; exact (Below.refl _ w).alloc (Nat.le_refl _) _
  have hx1 : w1.heap[w.heap.size]? = some (.cells #[.int .i64 ki, .slice A1 n1 c1, .slice A2 n2 c2, .slice A3 n3 c3] 51 (0, 0)) := by rw [hw1]; exact World.alloc_heap_new _ _
  have hs1 := lt_of_heap hx1
  have HP := Lib.hid (Print_any little w1 (hg.keeps (below_keeps hb1 ok)) hd hsm hl hb)
  have y0 := cell_row (cs := [_, _, _, _]) (j := 0) hx1 rfl
  have y1 := cell_row (cs := [_, _, _, _]) (j := 1) hx1 rfl
  have y2 := cell_row (cs := [_, _, _, _]) (j := 2) hx1 rfl
  have y3 := cell_row (cs := [_, _, _, _]) (j := 3) hx1 rfl
  have HB := Lib.hid hb1
  clear hg hd hsm hl hb hx1 hb1
  unfold MixedPost at HP
  go_enter Tryd.func34, Tryd.ntmps34
  go_upto_region 1 with (fail)
  rw [← hw1]
  clear hw1
  go_wp2_with fail
  refine HP.out.mono ?_
  rintro e w2 ⟨pr, er, rfl, hb2, hr⟩
  have hb02 := HB.out.trans (hb2.mono (Nat.le_of_lt hs1))
  cases hck : checkR g with
  | some x =>
    rw [hck] at hr
    obtain ⟨rfl, her⟩ := hr
    have her2 := her
    obtain ⟨x1, x2⟩ := x
    obtain ⟨eb, rfl, _⟩ := her2
    have H := Lib.hid (And.intro hb02 (And.intro her hck))
    clear her hb2 hb02 hck
    go_wp2
    go_ret2
    exact ⟨_, _, rfl, H.out.1, by rw [H.out.2.2]; exact ⟨rfl, IsErr.mono (e := some (x1, x2)) H.out.2.1 fun b _ hb => by omega⟩⟩
  | none =>
    rw [hck] at hr
    obtain ⟨how, rfl⟩ := hr
    obtain ⟨P, k, rfl⟩ := how.shape
    have HCK := Lib.hid hck
    have hne := encG_ne [little] g 0
    generalize hwb : encG [little] g 0 = wb at how hne ⊢
    have HWB := Lib.hid hwb
    clear hwb hck
    by_cases hbig : 65536 < wb.length
    · have hbi : (65536 : Int) < (wb.length : Int) := by omega
      have H := Lib.hid hb02
      have hs2 := hb2.size
      clear how hb2 hb02
      go_wp2_with fail
      refine (wrap_any 0 274 w2).mono ?_
      rintro e w3 ⟨rfl, hw3⟩
      have hb3 : Below w2.heap.size w2 w3 := by rw [hw3]; exact (Below.refl _ w2).alloc (Nat.le_refl _) _
      have hx3 : w3.heap[w2.heap.size]? = some (.cells #[.int .i64 0, .iface 22 (.int .i64 274)] 102 (0, 0)) := by rw [hw3]; exact World.alloc_heap_new _ _
      have H3 := Lib.hid (And.intro hb3 hx3)
      clear hb3 hx3 hw3
      go_wp2
      go_ret2
      refine ⟨_, _, rfl, H.out.trans (H3.out.1.mono H.out.size), ?_⟩
      rw [HCK.out, HWB.out, if_pos hbig]
      exact ⟨rfl, _, rfl, H.out.size, cell_row (cs := [_, _]) (j := 0) H3.out.2 rfl, cell_row (cs := [_, _]) (j := 1) H3.out.2 rfl⟩
    · have hbi : ¬ (65536 : Int) < (wb.length : Int) := by omega
      have hs2 := hb2.size
      obtain ⟨w3, hw3⟩ : ∃ w3, w3 = w2.alloc (.cells #[.int .u8 80, .int .u8 76, .int .u8 77, .int .u8 49] 5 (4, 5)) := ⟨_, rfl⟩
      have hb3 : Below w2.heap.size w2 w3 := by rw [hw3]; exact (Below.refl _ w2).alloc (Nat.le_refl _) _
      have hx3 : w3.heap[w2.heap.size]? = some (.cells #[.int .u8 80, .int .u8 76, .int .u8 77, .int .u8 49] 5 (4, 5)) := by rw [hw3]; exact World.alloc_heap_new _ _
      have hmk : Bytes (fun _ => True) w3 (.slice (some ⟨w2.heap.size, 0, none⟩) 4 4) markB :=
        ⟨_, _, rfl, by decide, by decide, .inr ⟨_, _, rfl, trivial, fun i c h => by rw [Nat.zero_add]; exact cell_rowF hx3 (by simpa [markB, bv] using h)⟩⟩
      have HP4 := Lib.hid (Put32_any wb.length false w3 hmk (by decide))
      have HO := Lib.hid (how.under hb3)
      have HB3 := Lib.hid (hb02.trans (hb3.mono hb02.size))
      have hs3 := hb3.size
      have hwu : IntKind.u32.wrap (wb.length : Int) = (wb.length : Int) := by rw [wrap_u32n]; omega
      have hcs := Lib.run_convert_bytes_const (P := Tryd.prog) w2 35 5 #[.int .u8 80, .int .u8 76, .int .u8 77, .int .u8 49] 4 4 Tryd.underlying35 Tryd.underlying5
      rw [show (#[Value.int .u8 80, .int .u8 76, .int .u8 77, .int .u8 49] : Array Value).size = 4 from rfl] at hcs
      clear how hb2 hb02 hb3 hx3 hmk
      go_wp2_with fail
      rw [← hw3]
      clear hw3
      refine HP4.out.mono ?_
      rintro e w4 ⟨r4, rfl, ho4, hb4⟩
      have hwb4 := HO.out.under hb4
      have HB4 := Lib.hid (HB3.out.trans (hb4.mono HB3.out.size))
      have hs4 := hb4.size
      have hlm : (markB ++ encB 4 wb.length false).length = 8 := by rw [List.length_append, encB_length]; rfl
      have hB4 : w3.heap.size ≤ w4.heap.size := hs4
      have H4 := Lib.hid (And.intro ho4 hwb4)
      clear ho4 hwb4 hb4
      go_wp2_with (first
        | (refine (list_append rfl (.tmp 28) (.tmp 29) rfl r4 (.slice P wb.length k) rfl rfl H4.out.1 H4.out.2 hne (by rw [hlm]; omega) hB4 ?_)
           intro g5 cap5 w5 ho5 hgr5 hg5 hlt5
           have HR5 := Lib.hid (And.intro ho5 (And.intro hgr5 hg5))
           clear ho5 hgr5 hg5)
        | fail)
      have hl5 : (headB wb).length = 8 + wb.length := by unfold headB; rw [List.length_append, hlm]
      have hb5 : Below w3.heap.size w4 w5 := (Below.refl _ w4).grown HR5.out.2.1 hB4 (fun k e => (World.ownsRow.lt H4.out.1 k e).1)
      have HB5 := Lib.hid (HB4.out.trans (hb5.mono HB3.out.size))
      have ho5 : OwnB w3.heap.size w5 _ (headB wb) := HR5.out.1
      have hby := ho5.bytes (by omega)
      have HS := Lib.hid (Sum_any w5 hby)
      have HP6 := Lib.hid (Put32_any (sumR (headB wb)) false w5 hby (by omega))
      clear hb5 ho5 hby
      go_wp2_with fail
      refine HS.out.mono ?_
      rintro e w' ⟨rfl, rfl⟩
      go_wp2_with fail
      refine HP6.out.mono ?_
      rintro e w6 ⟨r6, rfl, ho6, hb6⟩
      have H6 := Lib.hid (And.intro ho6 hb6)
      clear ho6 hb6
      go_wp2
      go_ret2
      refine ⟨_, _, rfl, HB5.out.trans (H6.out.2.mono HB5.out.size), ?_⟩
      rw [HCK.out, HWB.out, if_neg hbig]
      exact ⟨H6.out.1.mono HB5.out.size, rfl⟩
end Go.Proofs.YtlffgepnhhnadaaDoor.Pl
