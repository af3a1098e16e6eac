/- The document's reader: its state; New, Waiting, Count, walked; the append of a piece. The document's Feed, walked. -/
import Derived.Test.YtlffgepnhhnadaaDoorRfI
import Derived.Test.YtlffgepnhhnadaaDoorApp
namespace Go.Proofs.YtlffgepnhhnadaaDoor.Pl
section
open Go.RowKit

/-- the document's reader in sb: all that came, where the next record begins, how many were read, the place of the error -/
structure IsRf (B : Nat) (w : World) (sb : Nat) (depth : Int) (all : List UInt8) (next count : Nat) (bad : Int) : Prop where
  base : B ≤ sb
  mem : ∃ bv, w.heap[sb]? = some (.cells #[.int .i64 depth, bv, .int .i64 next, .int .i64 count, .int .i64 bad] 91 (0, 0)) ∧ OwnB B w bv all ∧ bv.ownBlock ≠ some sb
theorem IsRf.lt {B sb next count : Nat} {w : World} {depth bad : Int} {all : List UInt8} (h : IsRf B w sb depth all next count bad) : sb < w.heap.size := by obtain ⟨_, h1, _⟩ := h.mem; exact lt_of_heap h1
theorem IsRf.below {B sb next count : Nat} {w w' : World} {depth bad : Int} {all : List UInt8} (h : IsRf B w sb depth all next count bad) (hb : Below w.heap.size w w') : IsRf B w' sb depth all next count bad := by
  obtain ⟨bv, h1, h2, h3⟩ := h.mem
  exact ⟨h.base, bv, (hb.block _ (lt_of_heap h1)).trans h1, ownsRow_below h2 hb, h3⟩
theorem IsRf.kept {B sb next count : Nat} {w w' : World} {depth bad : Int} {all : List UInt8} (h : IsRf B w sb depth all next count bad) (h1 : w'.heap[sb]? = w.heap[sb]?) (h2 : ∀ v g, w.cell? ⟨sb, 1, none⟩ = some v → v.ownBlock = some g → w'.heap[g]? = w.heap[g]?) : IsRf B w' sb depth all next count bad := by
  obtain ⟨bv, m1, m2, m3⟩ := h.mem
  refine ⟨h.base, bv, h1.trans m1, ?_, m3⟩
  obtain ⟨k0, k1⟩ := m2
  refine ⟨k0, k1.imp id ?_⟩
  rintro ⟨g, cap, cur, hv, hb, hg, rest⟩
  exact ⟨g, cap, cur, hv, hb, (h2 bv g (cell_row (cs := [_, _, _, _, _]) (j := 1) m1 rfl) (by rw [hv]; rfl)).trans hg, rest⟩

theorem RNew_any (depth : Int) (w : World) : Calls Tryd.prog 15 #[.int .i64 depth] w fun e w' =>
    e = .returned (.pointer (some ⟨w.heap.size, 0, none⟩)) ∧ Below w.heap.size w w' ∧ w'.heap[w.heap.size]? = some (.cells #[.int .i64 depth, .slice none 0 0, .int .i64 0, .int .i64 0, .int .i64 (-1)] 91 (0, 0)) := by
  obtain ⟨w1, hw1⟩ : ∃ w1, w1 = w.alloc (.cells #[.int .i64 depth, .slice none 0 0, .int .i64 0, .int .i64 0, .int .i64 (-1)] 91) := ⟨_, rfl⟩
  have hb1 : Below w.heap.size w w1 := by rw [hw1]; exact (Below.refl _ w).alloc (Nat.le_refl _) _
  have hx1 : w1.heap[w.heap.size]? = some (.cells #[.int .i64 depth, .slice none 0 0, .int .i64 0, .int .i64 0, .int .i64 (-1)] 91 (0, 0)) := by rw [hw1]; exact World.alloc_heap_new _ _
  have H := Lib.hid (And.intro hb1 hx1)
  clear hb1 hx1
  go_enter Tryd.func15, Tryd.ntmps15
  go_wp2
  rw [← hw1]
  go_ret
  exact ⟨rfl, H.out.1, H.out.2⟩
theorem RWaiting_any {B sb next count : Nat} {depth bad : Int} {all : List UInt8} (w : World) (h : IsRf B w sb depth all next count bad) (hn : next ≤ all.length) (hl : all.length ≤ 1099511627776) :
    Calls Tryd.prog 18 #[.pointer (some ⟨sb, 0, none⟩)] w fun e w' => e = .returned (.int .i64 ((all.length - next : Nat) : Int)) ∧ ∃ n, w' = w.drewN n := by
  obtain ⟨bv, h1, h2, _⟩ := h.mem
  have c1 := cell_row (cs := [_, _, _, _, _]) (j := 1) h1 rfl
  have c2 := cell_row (cs := [_, _, _, _, _]) (j := 2) h1 rfl
  obtain ⟨A, c, rfl⟩ := h2.shape
  have hc : ((all.length - next : Nat) : Int) = (all.length : Int) - next := by omega
  rw [hc]
  clear h1 h2 h
  go_enter Tryd.func18, Tryd.ntmps18
  go_wp2
  go_quiet (fail)
  go_wp2
  go_ret
  exact ⟨rfl, _, rfl⟩
theorem RCount_any {B sb next count : Nat} {depth bad : Int} {all : List UInt8} (w : World) (h : IsRf B w sb depth all next count bad) :
    Calls Tryd.prog 20 #[.pointer (some ⟨sb, 0, none⟩)] w fun e w' => e = .returned (.int .i64 (count : Int)) ∧ w = w' := by
  obtain ⟨bv, h1, h2, _⟩ := h.mem
  have c3 := cell_row (cs := [_, _, _, _, _]) (j := 3) h1 rfl
  clear h1 h2 h
  go_enter Tryd.func20, Tryd.ntmps20
  go_wp2
  go_ret
  exact ⟨rfl, rfl⟩
theorem RFeed_broken {B sb next count : Nat} {depth bad : Int} {all : List UInt8} (pv : Value) (w : World) (h : IsRf B w sb depth all next count bad) (hb : 0 ≤ bad) :
    Calls Tryd.prog 45 #[.pointer (some ⟨sb, 0, none⟩), pv] w fun e w' => e = .returned (.tuple #[.slice none 0 0, .int .i64 272, .int .i64 bad]) ∧ ∃ n, w' = w.drewN n := by
  obtain ⟨bv, h1, h2, _⟩ := h.mem
  have c4 := cell_row (cs := [_, _, _, _, _]) (j := 4) h1 rfl
  clear h1 h2 h
  go_enter Tryd.func45, Tryd.ntmps45
  go_wp2
  go_quiet (fail)
  go_wp2
  go_ret3
  exact ⟨rfl, _, rfl⟩

/-- behind an append to what came -/
theorem IsRf.grow {B sb next count g3 cap3 len : Nat} {w w2 w3 : World} {bv : Value} {depth bad : Int} {all all' : List UInt8} (hbase : B ≤ sb) (hB : B ≤ w.heap.size)
    (hblk : w.heap[sb]? = some (.cells #[.int .i64 depth, bv, .int .i64 next, .int .i64 count, .int .i64 bad] 91 (0, 0))) (hown : OwnB B w bv all) (hne : bv.ownBlock ≠ some sb)
    (h2 : Below w.heap.size w w2) (ho3 : OwnB B w3 (.slice (some ⟨g3, 0, none⟩) len cap3) all') (hgr : w2.grownBy w3 bv.ownBlock) (hg3 : bv.ownBlock = some g3 ∨ g3 = w2.heap.size) :
    IsRf B (w3.setCell ⟨sb, 1, none⟩ (.slice (some ⟨g3, 0, none⟩) len cap3)) sb depth all' next count bad ∧ KeepS sb w (w3.setCell ⟨sb, 1, none⟩ (.slice (some ⟨g3, 0, none⟩) len cap3)) ∧ Below B w (w3.setCell ⟨sb, 1, none⟩ (.slice (some ⟨g3, 0, none⟩) len cap3)) := by
  have hlt := lt_of_heap hblk
  have hlt2 : sb < w2.heap.size := Nat.lt_of_lt_of_le hlt h2.size
  have hg : g3 ≠ sb := by
    rintro rfl
    rcases hg3 with h | h
    · exact hne h
    · omega
  have hb3 : w3.heap[sb]? = some (.cells #[.int .i64 depth, bv, .int .i64 next, .int .i64 count, .int .i64 bad] 91 (0, 0)) := by
    rw [hgr.block sb hlt2 (fun e => hne e.symm), h2.block sb hlt]; exact hblk
  have hBl : Below B w w3 := (h2.mono hB).grown hgr (Nat.le_trans hB h2.size) (fun k e => (World.ownsRow.lt hown k e).1)
  have hblk' : (w3.setCell ⟨sb, 1, none⟩ (.slice (some ⟨g3, 0, none⟩) len cap3)).heap[sb]? = some (.cells #[.int .i64 depth, .slice (some ⟨g3, 0, none⟩) len cap3, .int .i64 next, .int .i64 count, .int .i64 bad] 91 (0, 0)) := by
    have := heap_store (cs := [_, _, _, _, _]) hb3 (j := 1) (.slice (some ⟨g3, 0, none⟩) len cap3)
    simpa using this
  have hset : ∀ b, b ≠ sb → (w3.setCell ⟨sb, 1, none⟩ (.slice (some ⟨g3, 0, none⟩) len cap3)).heap[b]? = w3.heap[b]? := fun b hb => Below.heap_setCell w3 _ _ b hb
  refine ⟨⟨hbase, _, hblk', World.ownsRow.kept ho3 (grownBy_set w3 ⟨sb, 1, none⟩ _) (.inr (by simpa [Value.ownBlock] using hg)), by simpa [Value.ownBlock] using hg⟩, ?_, hBl.setCell hbase _⟩
  intro b ⟨hb1, hb3', hb4⟩
  have hno := hb4 bv (by simp [World.cell?, hblk])
  refine ⟨?_, ?_, hb3', fun u hu => ?_⟩
  · rw [hset b hb3', hgr.block b (Nat.lt_of_lt_of_le hb1 h2.size) (fun e => hno e.symm), h2.block b hb1]
  · have := hgr.size; have := h2.size; simp [World.setCell]; omega
  · simp [World.cell?, hblk'] at hu
    subst hu
    rcases hg3 with h | h
    · rw [h] at hno; simpa [Value.ownBlock] using hno
    · have := h2.size
      simp only [Value.ownBlock, ne_eq, Option.some.injEq]
      omega
end
section
open Go.RowKit

/-- what the loop over records keeps; w1: the world behind the append of the piece -/
structure LoopF (B : Nat) (w1 : World) (sb : Nat) (bv : Value) (all : List UInt8) (depth : Int) (next count : Nat) (acc : List G) (n : Nat) (sv : Value) (vs : List Value) (W : World) : Prop where
  grown : w1.grownBy W (some sb)
  base : B ≤ sb
  rlt : sb < w1.heap.size
  mem : W.heap[sb]? = some (.cells #[.int .i64 depth, bv, .int .i64 ((next + n : Nat) : Int), .int .i64 ((count + acc.length : Nat) : Int), .int .i64 (-1)] 91 (0, 0))
  own : OwnB B w1 bv all
  ne : bv.ownBlock ≠ some sb
  out : W.ownsRow w1.heap.size 51 4 sv acc.length vs
  gs : IsGs (fun b => w1.heap.size ≤ b ∧ sv.ownBlock ≠ some b) W acc vs

section
variable {B sb next count n : Nat} {w1 W : World} {bv sv : Value} {all : List UInt8} {depth : Int} {acc : List G} {vs : List Value}
theorem LoopF.buf (h : LoopF B w1 sb bv all depth next count acc n sv vs W) : OwnB B W bv all := World.ownsRow.kept h.own h.grown (.inr h.ne)
theorem LoopF.below {W' : World} (h : LoopF B w1 sb bv all depth next count acc n sv vs W) (hb : Below W.heap.size W W') : LoopF B w1 sb bv all depth next count acc n sv vs W' :=
  ⟨⟨hb.os.trans h.grown.os, hb.tape.trans h.grown.tape, hb.output.trans h.grown.output, Nat.le_trans h.grown.size hb.size, fun k hk hkr => (hb.block k (by have := h.grown.size; omega)).trans (h.grown.block k hk hkr)⟩, h.base, h.rlt, (hb.block _ (lt_of_heap h.mem)).trans h.mem, h.own, h.ne, ownsRow_below h.out hb, h.gs.keeps (below_keeps hb _)⟩
/-- a tree more -/
theorem LoopF.next' {m g cap : Nat} {W' W3 W4 : World} {x : G} {cs : List Value} (h : LoopF B w1 sb bv all depth next count acc n sv vs W) (hx : IsG (fun b => w1.heap.size ≤ b ∧ sv.ownBlock ≠ some b) W x cs) (hal : Below W.heap.size W W')
    (ho3 : W3.ownsRow w1.heap.size 51 4 (.slice (some ⟨g, 0, none⟩) (acc.length + 1) cap) (acc.length + 1) (vs ++ cs)) (hgr : W'.grownBy W3 sv.ownBlock) (hg : sv.ownBlock = some g ∨ g = W'.heap.size)
    (hW4 : W4 = (W3.setCell ⟨sb, 2, none⟩ (.int .i64 ((next + (n + m) : Nat) : Int))).setCell ⟨sb, 3, none⟩ (.int .i64 ((count + (acc.length + 1) : Nat) : Int))) :
    LoopF B w1 sb bv all depth next count (acc ++ [x]) (n + m) (.slice (some ⟨g, 0, none⟩) (acc.length + 1) cap) (vs ++ cs) W4 := by
  have hs := h.grown.size
  have hrl := lt_of_heap h.mem
  have hrlt := h.rlt
  have hsv := World.ownsRow.lt h.out
  have hset : ∀ b, b ≠ sb → W4.heap[b]? = W3.heap[b]? := fun b hb => by
    rw [hW4, Below.heap_setCell _ _ _ b hb, Below.heap_setCell _ _ _ b hb]
  have hsz : W4.heap.size = W3.heap.size := by rw [hW4]; simp [World.setCell]
  have hs1 := hal.size
  have hs2 := hgr.size
  have hblk : ∀ b, b < W.heap.size → sv.ownBlock ≠ some b → W3.heap[b]? = W.heap[b]? := fun b hb hn => (hgr.block b (by omega) (fun e => hn e.symm)).trans (hal.block b hb)
  have hrs : sv.ownBlock ≠ some sb := fun e => by have := (hsv sb e).1; omega
  have hr3 := (hblk sb hrl hrs).trans h.mem
  have r2 := heap_store (cs := [.int .i64 depth, bv, .int .i64 ((next + n : Nat) : Int), .int .i64 ((count + acc.length : Nat) : Int), .int .i64 (-1)]) hr3 (j := 2) (.int .i64 ((next + (n + m) : Nat) : Int))
  have r3 := heap_store (cs := [.int .i64 depth, bv, .int .i64 ((next + (n + m) : Nat) : Int), .int .i64 ((count + acc.length : Nat) : Int), .int .i64 (-1)]) r2 (j := 3) (.int .i64 ((count + (acc.length + 1) : Nat) : Int))
  rw [← hW4] at r3
  have hk4 : Keeps (fun b => w1.heap.size ≤ b ∧ sv.ownBlock ≠ some b) W W4 := fun b o hb ho _ => by
    rw [hset b (fun e => by omega), hblk b (lt_of_heap ho) hb.2]; exact ho
  refine ⟨⟨?_, ?_, ?_, by omega, fun k hk hkr => ?_⟩, h.base, h.rlt, ?_, h.own, h.ne, ?_, ?_⟩
  · rw [hW4]; exact (hgr.os.trans (hal.os.trans h.grown.os))
  · rw [hW4]; exact (hgr.tape.trans (hal.tape.trans h.grown.tape))
  · rw [hW4]; exact (hgr.output.trans (hal.output.trans h.grown.output))
  · rw [hset k (fun e => hkr (by rw [e])), hblk k (by omega) (fun e => by have := (hsv k e).1; omega)]
    exact h.grown.block k hk hkr
  · rw [List.length_append]; exact r3
  · have e : W4.ownsRow w1.heap.size 51 4 (.slice (some ⟨g, 0, none⟩) (acc.length + 1) cap) (acc.length + 1) (vs ++ cs) := by
      obtain ⟨k0, k1⟩ := ho3
      refine ⟨k0, k1.imp id ?_⟩
      rintro ⟨g', cap', cur, hv, hb, hgh, rest⟩
      exact ⟨g', cap', cur, hv, hb, (hset g' (fun e => by omega)).trans hgh, rest⟩
    simpa using e
  · have hp : IsGs (fun b => (w1.heap.size ≤ b ∧ sv.ownBlock ≠ some b) ∧ b < W.heap.size) W (acc ++ [x]) (vs ++ cs) := (h.gs.append (IsGs.one hx)).mono fun b hb h => ⟨h, hb⟩
    refine (hp.keeps (w' := W4) fun b o hb ho hc => hk4 b o hb.1 ho hc).mono fun b _ hb => ⟨hb.1.1, fun e => ?_⟩
    cases e
    rcases hg with hg | hg
    · exact hb.1.2 hg
    · have h2 : g < W.heap.size := hb.2
      omega
end

/-- what an error leaves: its number, its place, the reader's own -/
def RFeedE (p : Int) : Option (Int × Int) → Int → Int → Int → Prop
  | none, c, _, bad => c = 0 ∧ bad = -1
  | some x, c, a, bad => c = x.2 ∧ c ≠ 0 ∧ a = p + x.1 ∧ bad = a
/-- what the document's Feed gives -/
def RFeedPost (B : Nat) (w : World) (sb : Nat) (depth : Int) (all : List UInt8) (next count : Nat) (r : List G × Nat × List UInt8 × Option (Int × Int)) (e : Ending) (w' : World) : Prop := ∃ ov c a bad vs, e = .returned (.tuple #[ov, .int .i64 c, .int .i64 a]) ∧ Below B w w' ∧ KeepS sb w w' ∧
  Sl (NewS w w' sb) w' ov r.1.length vs ∧ IsGs (NewS w w' sb) w' r.1 vs ∧ IsRf B w' sb depth all (next + r.2.1) (count + r.1.length) bad ∧ RFeedE ((next + r.2.1 : Nat) : Int) r.2.2.2 c a bad

/-- behind the call of record: its tree in a variable -/
def RRecV (wr : World) (r : Rec) (p : Nat) (x9 x10 x11 x12 x13 : Value) (W : World) : Prop := ∃ gb ki A1 n1 c1 A2 n2 c2 A3 n3 c3 nx wt c a, x9 = .pointer (some ⟨gb, 0, none⟩) ∧ x10 = .int .i64 nx ∧ x11 = .bool wt ∧ x12 = .int .i64 c ∧ x13 = .int .i64 a ∧ Below wr.heap.size wr W ∧
  W.heap[gb]? = some (.cells #[.int .i64 ki, .slice A1 n1 c1, .slice A2 n2 c2, .slice A3 n3 c3] 51 (0, 0)) ∧ RRecM wr p W [.int .i64 ki, .slice A1 n1 c1, .slice A2 n2 c2, .slice A3 n3 c3] r nx wt c a
theorem RRecM.keeps {w0 w w' W : World} {r : Rec} {p : Nat} {cs : List Value} {nx c a : Int} {wt : Bool} (h : RRecM w p w' cs r nx wt c a) (h0 : w0.heap.size ≤ w.heap.size) (hk : ∀ b, w.heap.size ≤ b → b < w'.heap.size → W.heap[b]? = w'.heap[b]?) : RRecM w0 p W cs r nx wt c a := by
  cases r with
  | wait => exact h
  | bad a c => exact h
  | got g m =>
    exact ⟨(h.1.keeps (w' := W) fun b o hb ho _ => (hk b hb (lt_of_heap ho)).trans ho).mono fun b _ hb => Nat.le_trans h0 hb, h.2⟩
theorem rrecV_after {wr w3 : World} {r : Rec} {p : Nat} {ki nx c a : Int} {wt : Bool} {A1 A2 A3 : Option Addr} {n1 c1 n2 c2 n3 c3 : Nat} (hb : Below wr.heap.size wr w3) (hm : RRecM wr p w3 [.int .i64 ki, .slice A1 n1 c1, .slice A2 n2 c2, .slice A3 n3 c3] r nx wt c a) :
    RRecV wr r p (.pointer (some ⟨w3.heap.size, 0, none⟩)) (.int .i64 nx) (.bool wt) (.int .i64 c) (.int .i64 a) (w3.alloc (.cells #[.int .i64 ki, .slice A1 n1 c1, .slice A2 n2 c2, .slice A3 n3 c3] 51)) := by
  have ha : Below w3.heap.size w3 (w3.alloc (.cells #[.int .i64 ki, .slice A1 n1 c1, .slice A2 n2 c2, .slice A3 n3 c3] 51)) := (Below.refl _ w3).alloc (Nat.le_refl _) _
  exact ⟨_, _, _, _, _, _, _, _, _, _, _, _, _, _, _, rfl, rfl, rfl, rfl, rfl, hb.trans (ha.mono hb.size), World.alloc_heap_new _ _, hm.keeps (Nat.le_refl _) fun b _ hb => ha.block b hb⟩
theorem rrecV_first {wr w0 w3 W : World} {r : Rec} {p : Nat} {ki nx c a : Int} {wt : Bool} {A1 A2 A3 : Option Addr} {n1 c1 n2 c2 n3 c3 : Nat} (h0 : w0 = wr.alloc (.cells #[.int .i64 0, .slice none 0 0, .slice none 0 0, .slice none 0 0] 51)) (hb : Below w0.heap.size w0 w3) (hm : RRecM w0 p w3 [.int .i64 ki, .slice A1 n1 c1, .slice A2 n2 c2, .slice A3 n3 c3] r nx wt c a)
    (hW : W = (((w3.setCell ⟨wr.heap.size, 0, none⟩ (.int .i64 ki)).setCell ⟨wr.heap.size, 1, none⟩ (.slice A1 n1 c1)).setCell ⟨wr.heap.size, 2, none⟩ (.slice A2 n2 c2)).setCell ⟨wr.heap.size, 3, none⟩ (.slice A3 n3 c3)) :
    RRecV wr r p (.pointer (some ⟨wr.heap.size, 0, none⟩)) (.int .i64 nx) (.bool wt) (.int .i64 c) (.int .i64 a) W := by
  have hb0 : Below wr.heap.size wr w0 := by rw [h0]; exact (Below.refl _ wr).alloc (Nat.le_refl _) _
  have hx0 : w0.heap[wr.heap.size]? = some (.cells #[.int .i64 0, .slice none 0 0, .slice none 0 0, .slice none 0 0] 51 (0, 0)) := by rw [h0]; exact World.alloc_heap_new _ _
  have hlt := lt_of_heap hx0
  have hx3 := (hb.block _ hlt).trans hx0
  obtain ⟨q1, q2, q3, q4⟩ := four_set hx3 _ _ _ _ hW
  exact ⟨_, _, _, _, _, _, _, _, _, _, _, _, _, _, _, rfl, rfl, rfl, rfl, rfl, q4 _ _ (Nat.le_refl _) (hb0.trans (hb.mono (Nat.le_of_lt hlt))), q1, hm.keeps (Nat.le_of_lt hlt) fun b h1 _ => q2 b (by omega)⟩
def nextAt (W : World) (sb : Nat) : Nat := match W.cell? ⟨sb, 2, none⟩ with | some (.int _ n) => n.toNat | _ => 0
theorem LoopF.nextEq {B sb next count n : Nat} {w1 W : World} {bv sv : Value} {all : List UInt8} {depth : Int} {acc : List G} {vs : List Value} (h : LoopF B w1 sb bv all depth next count acc n sv vs W) : nextAt W sb = next + n := by
  have h1 := cell_row (cs := [_, _, _, _, _]) (j := 2) h.mem rfl
  simp only [nextAt, h1]; omega

/-- at the end, whatever the place of the error -/
theorem LoopF.done {B sb next count n : Nat} {w w1 W W2 : World} {bv sv : Value} {all : List UInt8} {depth c a bad : Int} {acc : List G} {vs : List Value} {er : Option (Int × Int)} {rest : List UInt8} (h : LoopF B w1 sb bv all depth next count acc n sv vs W) (hB : Below B w w1) (hK : KeepS sb w w1) (hbc : ∀ v, w1.cell? ⟨sb, 1, none⟩ = some v → v = bv) (hn : acc.length ≤ 1099511627776)
    (hW2 : W2.heap[sb]? = some (.cells #[.int .i64 depth, bv, .int .i64 ((next + n : Nat) : Int), .int .i64 ((count + acc.length : Nat) : Int), .int .i64 bad] 91 (0, 0))) (hg : W.grownBy W2 (some sb)) (he : RFeedE ((next + n : Nat) : Int) er c a bad) (hc1 : ∃ v, w1.cell? ⟨sb, 1, none⟩ = some v) :
    RFeedPost B w sb depth all next count (acc, n, rest, er) (.returned (.tuple #[sv, .int .i64 c, .int .i64 a])) W2 := by
  have hgg : w1.grownBy W2 (some sb) := grown_trans h.grown hg
  have hrl := h.rlt
  have hbv : w1.cell? ⟨sb, 1, none⟩ = some bv := by obtain ⟨v, hv⟩ := hc1; rw [hv, hbc v hv]
  have hbl := World.ownsRow.lt h.own
  have hapt : ∀ b, b < W2.heap.size → w1.heap.size ≤ b → AptS W2 sb b := fun b h1 h2 => ⟨h1, by omega, fun v hv e => by
    simp [World.cell?, hW2] at hv; subst hv
    have := (hbl b e).2; omega⟩
  have hK2 : KeepS sb w W2 := fun b hb => by
    obtain ⟨k1, k2⟩ := hK b hb
    refine ⟨(hgg.block b k2.1 (fun e => k2.2.1 (Option.some.inj e))).trans k1, Nat.lt_of_lt_of_le k2.1 hgg.size, k2.2.1, fun v hv e => ?_⟩
    simp [World.cell?, hW2] at hv; subst hv
    exact k2.2.2 _ hbv e
  have hsz := hK2
  have hws : w.heap.size ≤ w1.heap.size := hB.size
  have hsl : Sl (fun b => w1.heap.size ≤ b) W sv acc.length vs := by
    obtain ⟨h0, ⟨rfl, h2⟩ | ⟨g, cap, cur, hv, hb, hg, h3, h4, h5, h6⟩⟩ := h.out
    · refine ⟨_, _, by rw [h2], by omega, by omega, .inl ?_⟩
      exact List.eq_nil_of_length_eq_zero (by rw [h0, h2])
    · refine ⟨_, _, hv, h3, by omega, .inr ⟨g, 0, rfl, hb, fun i c hc => ?_⟩⟩
      have := World.ownsRow.cells (show W.ownsRow w1.heap.size 51 4 sv acc.length vs from ⟨h0, .inr ⟨g, cap, cur, hv, hb, hg, h3, h4, h5, h6⟩⟩) (g := g) (by rw [hv]; rfl) i c hc
      rw [add0] at this
      rw [Nat.zero_add]; exact this
  have hkp : Keeps (fun b => w1.heap.size ≤ b) W W2 := fun b o hb ho _ => (hg.block b (lt_of_heap ho) (fun e => by have := Option.some.inj e; omega)).trans ho
  refine ⟨sv, c, a, bad, vs, rfl, hB.grown hgg (by have := h.base; omega) (fun k e => by cases e; exact h.base), hK2, (hsl.keeps hkp).mono fun b h1 h2 => ⟨hapt b h1 h2, by omega⟩, ((h.gs.mono fun b _ hb => hb.1).keeps hkp).mono fun b h1 h2 => ⟨hapt b h1 h2, by omega⟩, ⟨h.base, bv, hW2, World.ownsRow.kept h.own hgg (.inr h.ne), h.ne⟩, he⟩
end
end Go.Proofs.YtlffgepnhhnadaaDoor.Pl
