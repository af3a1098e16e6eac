/- wkb.Mixed and wkb.Print, walked. -/
import Derived.Test.YtlffgepnhhnadaaDoorPrintG
namespace Go.Proofs.YtlffgepnhhnadaaDoor.Pl
open Go.RowKit

theorem IsErr.mono {ok ok' : Nat → Prop} {w : World} {v : Value} {e : Option (Int × Int)} (h : IsErr ok w v e) (k : ∀ b, b < w.heap.size → ok b → ok' b) : IsErr ok' w v e := by
  cases e with
  | none => exact h
  | some p => obtain ⟨b, h0, hb, h1, h2⟩ := h; exact ⟨b, h0, k b (lt_of_cell h1) hb, h1, h2⟩
theorem OwnB.mono {B B' : Nat} {w : World} {v : Value} {l : List UInt8} (h : OwnB B w v l) (hb : B' ≤ B) : OwnB B' w v l :=
  ⟨h.1, h.2.imp id fun ⟨g, c, cur, a, b, rest⟩ => ⟨g, c, cur, a, Nat.le_trans hb b, rest⟩⟩
theorem ownB_nil (B : Nat) (w : World) : OwnB B w (.slice none 0 0) [] := ⟨rfl, .inl ⟨rfl, rfl⟩⟩

/-- what Mixed and Print give -/
def MixedPost (w : World) (g : G) (os : List Bool) (e : Ending) (w' : World) : Prop := ∃ r er, e = .returned (.tuple #[r, er]) ∧ Below w.heap.size w w' ∧
  match checkR g with
  | none => OwnB w.heap.size w' r (encG os g 0) ∧ er = .nilIface
  | some x => r = .slice none 0 0 ∧ IsErr (fun b => w.heap.size ≤ b) w' er (some x)

theorem Mixed_any {ok : Nat → Prop} {g : G} {cs : List Value} {ov : Value} {os : List Bool} (w : World) (hg : IsG ok w g cs) (hd : depth g ≤ 1152921504606846975) (hsm : SmallG g) (hos : Sl ok w ov os.length (os.map Value.bool)) (hl : checkR g = none → (encG os g 0).length ≤ 70368744177664) (hb : checkR g = none → begunG g ≤ 70368744177664) :
    Calls Tryd.prog 48 #[.agg cs.toArray, ov] w (MixedPost w g os) := by
  obtain ⟨cx, rfl⟩ : ∃ cx, cx = cs := ⟨_, rfl⟩
  obtain ⟨kd, ln, rg, pt⟩ := g
  have hg2 := hg
  simp only [IsG] at hg2
  obtain ⟨v1, v2, v3, rfl, _⟩ := hg2
  have HC := Lib.hid (fun W (h : IsG ok W (.mk kd ln rg pt) [.int .i64 kd, v1, v2, v3]) => check_any (ok := ok) (w := W) h hd hsm)
  go_enter Tryd.func48, Tryd.ntmps48
  obtain ⟨w1, hw1⟩ : ∃ w1, w1 = w.alloc (.cells #[.int .i64 kd, v1, v2, v3] 51) := ⟨_, rfl⟩
  have hb1 : Below w.heap.size w w1 := by subst hw1; exact (Below.refl _ w).alloc (Nat.le_refl _) _
  have hc0 : ∀ j v, #[Value.int .i64 kd, v1, v2, v3][j]? = some v → w1.cell? ⟨w.heap.size, j, none⟩ = some v := by subst hw1; intro j v h; rw [World.cell?_alloc_mark]; exact h
  have hlt1 : w.heap.size < w1.heap.size := lt_of_cell (hc0 0 _ rfl)
  have HC0 := Lib.hid hc0
  clear hc0
  go_wp2_with fail
  rw [← hw1]
  refine (HC.out w1 (hg.keeps (below_keeps hb1 ok))).mono ?_
  rintro e w2 ⟨v, rfl, hv, hb2⟩
  have d0 := (hb2.cell (p := ⟨w.heap.size, 0, none⟩) hlt1).trans (HC0.out 0 _ rfl)
  have d1 := (hb2.cell (p := ⟨w.heap.size, 1, none⟩) hlt1).trans (HC0.out 1 _ rfl)
  have d2 := (hb2.cell (p := ⟨w.heap.size, 2, none⟩) hlt1).trans (HC0.out 2 _ rfl)
  have d3 := (hb2.cell (p := ⟨w.heap.size, 3, none⟩) hlt1).trans (HC0.out 3 _ rfl)
  have hb12 : Below w.heap.size w w2 := hb1.trans (hb2.mono (Nat.le_of_lt hlt1))
  cases hck : checkR (.mk kd ln rg pt) with
  | some x =>
    obtain ⟨a, c⟩ := x
    rw [hck] at hv
    have HV := Lib.hid hv
    obtain ⟨b, rfl, _⟩ := hv
    go_wp2
    go_ret2
    exact ⟨_, _, rfl, hb12, by rw [hck]; exact ⟨rfl, IsErr.mono (e := some (a, c)) HV.out fun b _ h => Nat.le_trans (Nat.le_of_lt hlt1) h⟩⟩
  | none =>
    rw [hck] at hv
    cases hv
    obtain ⟨A, c, rfl, hoc, hol, hor⟩ := hos
    have HOR := Lib.hid hor
    clear hor
    have hlt2 : w.heap.size < w2.heap.size := Nat.lt_of_lt_of_le hlt1 hb2.size
    obtain ⟨w3, hw3⟩ : ∃ w3, w3 = w2.alloc (.cells #[.slice none 0 0, .slice A os.length c, .int .i64 0] 122) := ⟨_, rfl⟩
    have hb3 : Below w2.heap.size w2 w3 := by subst hw3; exact (Below.refl _ w2).alloc (Nat.le_refl _) _
    have hblk : w3.heap[w2.heap.size]? = some (.cells #[.slice none 0 0, .slice A os.length c, .int .i64 0] 122 (0, 0)) := by subst hw3; exact World.alloc_heap_new _ _
    have hb13 : Below w.heap.size w w3 := hb12.trans (hb3.mono (Nat.le_of_lt hlt2))
    have hap : ∀ b, b < w.heap.size → Apt w3 w2.heap.size b := fun b hb => ⟨Nat.lt_of_lt_of_le hb hb13.size, by omega, fun v hv => by simp [World.cell?, hblk] at hv; subst hv; simp [Value.ownBlock]⟩
    have hpr : IsPr w.heap.size w3 w2.heap.size [] os 0 := ⟨Nat.le_of_lt hlt2, _, A, c, hblk, ownB_nil _ _, by simp [Value.ownBlock], ⟨hoc, hol⟩, ((HOR.out.mono (ok' := fun b => b < w.heap.size) fun b hb _ => hb).keeps (Keeps.of_below hb13)).mono fun b _ h => hap b h⟩
    have hgp : IsG (Apt w3 w2.heap.size) w3 (.mk kd ln rg pt) [.int .i64 kd, v1, v2, v3] := ((hg.mono (ok' := fun b => b < w.heap.size) fun b hb _ => hb).keeps (Keeps.of_below hb13)).mono fun b _ h => hap b h
    go_wp2_with fail
    rw [← hw3]
    refine (geom_any _ _ w.heap.size w2.heap.size 0 [] os _ w3 (Nat.le_refl _) hpr hgp (by simpa using hl hck) (by simpa using hb hck) hb13.size).mono ?_
    rintro e w4 ⟨⟨r4, rfl⟩, ⟨_, ov, A4, c4, hblk4, hown, _⟩, hb4, _⟩
    have hq4 : w4.cell? ⟨w2.heap.size, 0, none⟩ = some ov := by simp [World.cell?, hblk4]
    have HOW := Lib.hid hown
    clear hblk4 hblk hown
    go_wp2
    go_ret2
    exact ⟨_, _, rfl, hb13.trans hb4, by rw [hck]; exact ⟨by simpa using HOW.out, rfl⟩⟩

set_option maxRecDepth 100000 in
theorem Print_any {ok : Nat → Prop} {g : G} {cs : List Value} (little : Bool) (w : World) (hg : IsG ok w g cs) (hd : depth g ≤ 1152921504606846975) (hsm : SmallG g) (hl : checkR g = none → (encG [little] g 0).length ≤ 70368744177664) (hb : checkR g = none → begunG g ≤ 70368744177664) :
    Calls Tryd.prog 23 #[.agg cs.toArray, .bool little] w (MixedPost w g [little]) := by
  have H := Lib.hid (fun W (h : IsG (fun b => b < w.heap.size) W g cs) (v : Value) (hv : Sl (fun _ => True) W v 1 [.bool little]) => Mixed_any (ok := fun _ => True) (os := [little]) W (h.mono fun _ _ _ => trivial) hd hsm hv hl hb)
  have HG := Lib.hid (hg.mono (ok' := fun b => b < w.heap.size) fun b hb _ => hb)
  obtain ⟨a1, a2, a3, a4, rfl⟩ : ∃ a1 a2 a3 a4, cs = [a1, a2, a3, a4] := by
    have := hg.four
    match cs, this with
    | [a, b, c, d], _ => exact ⟨a, b, c, d, rfl⟩
  clear hg hl hb
  obtain ⟨wb, hwb⟩ : ∃ wb, wb = w.alloc (.cells #[a1, a2, a3, a4] 51) := ⟨_, rfl⟩
  obtain ⟨wc, hwc⟩ : ∃ wc, wc = wb.alloc (.cells #[.bool little] 4) := ⟨_, rfl⟩
  have hb0 : Below w.heap.size w wb := by subst hwb; exact (Below.refl _ w).alloc (Nat.le_refl _) _
  have hb1 : Below w.heap.size w wc := by subst hwc; exact hb0.alloc hb0.size _
  have hsz : wb.heap.size = w.heap.size + 1 := by subst hwb; exact Array.size_push _
  have hv : Sl (fun _ => True) wc (.slice (some ⟨w.heap.size + 1, 0, none⟩) 1 1) 1 [.bool little] := ⟨_, _, rfl, Nat.le_refl _, by omega, .inr ⟨_, _, rfl, trivial, fun i c h => by rw [Nat.zero_add, hwc, ← hsz, World.cell?_alloc_mark]; simpa using h⟩⟩
  have HV := Lib.hid hv
  go_enter Tryd.func23, Tryd.ntmps23
  go_wp2_with fail
  rw [← hwb, ← hwc]
  refine (H.out _ (HG.out.keeps (Keeps.of_below hb1)) _ HV.out).mono ?_
  rintro e w2 ⟨r, er, rfl, hb2, hr⟩
  have HR := Lib.hid hr
  go_wp2
  go_ret2
  refine ⟨_, _, rfl, hb1.trans (hb2.mono hb1.size), ?_⟩
  have h := HR.out
  revert h
  cases checkR g with
  | none => exact fun ⟨h1, h2⟩ => ⟨h1.mono hb1.size, h2⟩
  | some x => exact fun ⟨h1, h2⟩ => ⟨h1, h2.mono fun b _ h => Nat.le_trans hb1.size h⟩
end Go.Proofs.YtlffgepnhhnadaaDoor.Pl
