/- The document's pen: put and putPairs, walked. The document's pen: its state; order, walked. -/
import Derived.Test.YtlffgepnhhnadaaGreatDoorPrintG
import Derived.Test.YtlffgepnhhnadaaGreatDoorParseH
import Derived.Deep.DeepMust
namespace Go.Proofs.YtlffgepnhhnadaaGreatDoor.Pl
section
open Go.RowKit

/-- behind appends to made bytes -/
structure GrewB (B : Nat) (w : World) (v : Value) (l : List UInt8) (v' : Value) (w' : World) : Prop where
  own : OwnB B w' v' l
  grown : w.grownBy w' v.ownBlock
  blk : ∀ g, v'.ownBlock = some g → v.ownBlock = some g ∨ w.heap.size ≤ g
theorem GrewB.refl {B : Nat} {w : World} {v : Value} {l : List UInt8} (h : OwnB B w v l) : GrewB B w v l v w := ⟨h, ⟨rfl, rfl, rfl, Nat.le_refl _, fun _ _ _ => rfl⟩, fun _ h => .inl h⟩
theorem GrewB.trans {B : Nat} {w w1 w2 : World} {v v1 v2 : Value} {l l1 : List UInt8} (h : GrewB B w v l v1 w1) (k : GrewB B w1 v1 l1 v2 w2) : GrewB B w v l1 v2 w2 := by
  refine ⟨k.own, ⟨k.grown.os.trans h.grown.os, k.grown.tape.trans h.grown.tape, k.grown.output.trans h.grown.output, Nat.le_trans h.grown.size k.grown.size, fun b hb hn => ?_⟩, fun g hg => ?_⟩
  · rw [k.grown.block b (Nat.lt_of_lt_of_le hb h.grown.size) (fun e => ?_)]
    · exact h.grown.block b hb hn
    · rcases h.blk b e.symm with h' | h'
      · exact hn h'.symm
      · omega
  · rcases k.blk g hg with h' | h'
    · exact h.blk g h'
    · exact .inr (Nat.le_trans h.grown.size h')
/-- one append, behind the making of something -/
theorem GrewB.app {B g cap n : Nat} {w w1 w2 : World} {v : Value} {l : List UInt8} (hal : Below w.heap.size w w1) (ho : OwnB B w2 (.slice (some ⟨g, 0, none⟩) n cap) l) (hgr : w1.grownBy w2 v.ownBlock) (hg : v.ownBlock = some g ∨ g = w1.heap.size) : GrewB B w v l (.slice (some ⟨g, 0, none⟩) n cap) w2 := by
  refine ⟨ho, ⟨hgr.os.trans hal.os, hgr.tape.trans hal.tape, hgr.output.trans hal.output, Nat.le_trans hal.size hgr.size, fun b hb hn => (hgr.block b (Nat.lt_of_lt_of_le hb hal.size) hn).trans (hal.block b hb)⟩, fun k hk => ?_⟩
  cases hk
  rcases hg with hg | hg
  · exact .inl hg
  · exact .inr (by rw [hg]; exact hal.size)
theorem GrewB.below {B : Nat} {w w' : World} {v v' : Value} {l0 l : List UInt8} (h : GrewB B w v l v' w') (hv : OwnB B w v l0) (hB : B ≤ w.heap.size) : Below B w w' := (Below.refl B w).grown h.grown hB (fun k e => (World.ownsRow.lt hv k e).1)

theorem encB_take (size v : Nat) (lt : Bool) (k : Nat) (hk : k < size) : (encB size v lt)[k]? = some (UInt8.ofNat (v / 2 ^ (8 * (if lt then k else size - 1 - k)))) := by
  unfold encB
  rw [List.getElem?_map, List.getElem?_range hk]; rfl
theorem tk_snoc {α : Type} {l : List α} {k : Nat} {x : α} (h : l[k]? = some x) : l.take (k + 1) = l.take k ++ [x] := by rw [List.take_add_one, h]; rfl

set_option maxRecDepth 100000 in
set_option maxHeartbeats 1000000 in
theorem put_any {B : Nat} {v : Value} {l : List UInt8} (x size : Nat) (little : Bool) (w : World) (hv : OwnB B w v l) (_ : x < 18446744073709551616) (hs : size ≤ 8) (hl : l.length + 8 ≤ 140737488355328) (hB : B ≤ w.heap.size) :
    Calls Tryz.prog 69 #[v, .int .u64 x, .int .i64 size, .bool little] w fun e w' => ∃ v', e = .returned v' ∧ GrewB B w v (l ++ encB size x little) v' w' := by
  have HV := Lib.hid hv
  clear hv
  go_enter Tryz.func69, Tryz.ntmps69
  go_wp2_with fail
  go_loopw [0, 9] (fun u i W => ∃ k : Nat, k ≤ size ∧ i = .int .i64 k ∧ Hid (GrewB B w v (l ++ (encB size x little).take k) u W)) (fun _ i _ => size - (intOf i).toNat)
  case atStart => exact ⟨0, Nat.zero_le _, rfl, Lib.hid (by simpa using GrewB.refl HV.out)⟩
  case round =>
    obtain ⟨k, hk, rfl, hg⟩ := hrel
    by_cases hkl : k < size
    · have hlen : (l ++ (encB size x little).take k).length = l.length + k := by rw [List.length_append, List.length_take, encB_length]; omega
      have hnx := tk_snoc (encB_take size x little k hkl)
      have hsz : w.heap.size ≤ wr.heap.size := hg.grown.size
      have HG := Lib.hid hg
      clear hg
      cases little with
      | true =>
        have hby : bv (UInt8.ofNat (x / 2 ^ (8 * k))) = .int .u8 ((x : Int) / 2 ^ (8 * k) % 256) := by unfold bv; simp
        have h1 := one_byte wr (UInt8.ofNat (x / 2 ^ (8 * k)))
        rw [hby] at h1
        simp only [if_true] at hnx
        have HNX := Lib.hid hnx
        have HAL := Lib.hid ((Below.refl wr.heap.size wr).alloc (Nat.le_refl _) (.cells #[.int .u8 ((x : Int) / 2 ^ (8 * k) % 256)] 5))
        have H1 := Lib.hid h1
        clear h1 hnx hby
        go_wp2_with (at_builtin; go_must (
          refine (list_append rfl (.tmp 22) (.tmp 29) rfl u0 _ (by rfl) (by rfl) (ownsRow_below HG.out.own HAL.out) H1.out (by simp) (by rw [hlen]; simp only [List.length_cons, List.length_nil]; omega) (Nat.le_trans (Nat.le_trans hB hsz) HAL.out.size) ?_)
          intro g3 cap3 w4 ho3 hgr3 hg3 hlt3
          have HR3 := Lib.hid (GrewB.app HAL.out ho3 hgr3 hg3)
          clear ho3 hgr3 hg3 hlt3))
        go_roundw
        · refine ⟨k + 1, hkl, by simp, Lib.hid (HG.out.trans ?_)⟩
          have h := HR3.out
          rw [HNX.out, ← List.append_assoc]
          rw [hlen] at h
          exact h
        · simp [intOf]; omega
      | false =>
        have hj : (size : Int) - 1 - k = ((size - 1 - k : Nat) : Int) := by omega
        have hj8 : size - 1 - k < 8 := by omega
        simp only [Bool.false_eq_true, if_false] at hnx
        obtain ⟨j, hjj⟩ : ∃ j, size - 1 - k = j := ⟨_, rfl⟩
        rw [hjj] at hj hnx hj8
        clear hjj
        have hby : bv (UInt8.ofNat (x / 2 ^ (8 * j))) = .int .u8 ((x : Int) / 2 ^ (8 * j) % 256) := by unfold bv; simp
        have h1 := one_byte wr (UInt8.ofNat (x / 2 ^ (8 * j)))
        rw [hby] at h1
        have HNX := Lib.hid hnx
        have HAL := Lib.hid ((Below.refl wr.heap.size wr).alloc (Nat.le_refl _) (.cells #[.int .u8 ((x : Int) / 2 ^ (8 * j) % 256)] 5))
        have H1 := Lib.hid h1
        clear h1 hnx hby
        go_wp2_with (at_builtin; go_must (
          refine (list_append rfl (.tmp 22) (.tmp 29) rfl u0 _ (by rfl) (by rfl) (ownsRow_below HG.out.own HAL.out) H1.out (by simp) (by rw [hlen]; simp only [List.length_cons, List.length_nil]; omega) (Nat.le_trans (Nat.le_trans hB hsz) HAL.out.size) ?_)
          intro g3 cap3 w4 ho3 hgr3 hg3 hlt3
          have HR3 := Lib.hid (GrewB.app HAL.out ho3 hgr3 hg3)
          clear ho3 hgr3 hg3 hlt3))
        go_roundw
        · refine ⟨k + 1, hkl, by simp, Lib.hid (HG.out.trans ?_)⟩
          have h := HR3.out
          rw [HNX.out, ← List.append_assoc]
          rw [hlen] at h
          exact h
        · simp [intOf]; omega
    · have hke : k = size := by omega
      subst hke
      rw [List.take_of_length_le (Nat.le_of_eq (encB_length _ _ _))] at hg
      have HG := Lib.hid hg
      clear hg
      go_wp2_with fail
      go_ret
      exact ⟨_, rfl, HG.out⟩

set_option maxRecDepth 100000 in
set_option maxHeartbeats 1000000 in
theorem putPairs_any {B : Nat} {ok : Nat → Prop} {v pv : Value} {l : List UInt8} {ps : List Pt} (little : Bool) (w : World) (hv : OwnB B w v l) (hp : Pts ok w pv ps) (hok : ∀ b, ok b → v.ownBlock ≠ some b) (hl : l.length + 16 * ps.length + 8 ≤ 140737488355328) (hB : B ≤ w.heap.size) :
    Calls Tryz.prog 70 #[v, pv, .bool little] w fun e w' => ∃ v', e = .returned v' ∧ GrewB B w v (l ++ encPs little ps) v' w' := by
  have HV := Lib.hid hv
  obtain ⟨hpo, A, c, rfl, hc, hpl, hrow⟩ := hp
  have HP := Lib.hid (And.intro hpo (hrow.mono (ok' := fun b => ok b ∧ b < w.heap.size) fun b hb h => ⟨h, hb⟩))
  clear hv hrow hpo
  go_enter Tryz.func70, Tryz.ntmps70
  go_wp2_with fail
  go_loopw [0, 7] (fun u i W => ∃ k : Nat, k ≤ ps.length ∧ i = .int .i64 k ∧ Hid (GrewB B w v (l ++ encPs little (ps.take k)) u W)) (fun _ i _ => ps.length - (intOf i).toNat)
  case atStart => exact ⟨0, Nat.zero_le _, rfl, Lib.hid (by simpa [encPs] using GrewB.refl HV.out)⟩
  case round =>
    obtain ⟨k, hk, rfl, hg⟩ := hrel
    by_cases hkl : k < ps.length
    · have hlen : (l ++ encPs little (ps.take k)).length = l.length + 16 * k := by rw [List.length_append, encPs_length, List.length_take]; omega
      have hpk : ps[k]? = some ps[k] := List.getElem?_eq_getElem hkl
      have hkp : Keeps (fun b => ok b ∧ b < w.heap.size) w wr := fun b o hb ho _ => (hg.grown.block b hb.2 (fun e => hok b hb.1 e.symm)).trans ho
      obtain ⟨b, o, rfl, hbo, _, hcell⟩ := (HP.out.2.keeps hkp).at (by intro e; have h := ptCells_length ps; rw [e] at h; simp only [List.length_nil] at h; omega)
      obtain ⟨c0, c1⟩ := pt_cells hcell k _ hpk
      have hpt := HP.out.1 _ (List.getElem_mem hkl)
      have hne : u0.ownBlock ≠ some b := fun e => by
        rcases hg.blk b e with h | h
        · exact hok b hbo.1 h
        · have := hbo.2; omega
      have hnx : encPs little (ps.take (k + 1)) = encPs little (ps.take k) ++ encP little ps[k] := by rw [tk_snoc hpk]; simp only [encPs, List.flatMap_append, List.flatMap_cons, List.flatMap_nil, List.append_nil]
      have hBr : B ≤ wr.heap.size := Nat.le_trans hB hg.grown.size
      have HP1 := Lib.hid (put_any ps[k].1 8 little wr hg.own (by simpa using hpt.1) (by omega) (by omega) hBr)
      have HP2 := Lib.hid (fun W u2 (h : GrewB B wr u0 (l ++ encPs little (ps.take k) ++ encB 8 ps[k].1 little) u2 W) => put_any ps[k].2 8 little W h.own (by simpa using hpt.2) (by omega) (by rw [List.length_append, encB_length]; omega) (Nat.le_trans hBr h.grown.size))
      have HNX := Lib.hid hnx
      have HG := Lib.hid hg
      have hlb := lt_of_cell c1
      clear hcell hpk hg hnx hpt hkp
      simp only [encP] at HNX
      generalize ps[k].1 = x at c0 HP1 HP2 HNX
      generalize ps[k].2 = y at c1 HP2 HNX
      go_wp2_with fail
      refine HP1.out.mono ?_
      rintro e w2 ⟨u2, rfl, hg2⟩
      have c1 := (World.cell?_of_block (w := wr) (w' := w2) (a := ⟨b, o + k * 2 + 1, none⟩) (hg2.grown.block b hlb (fun e => hne e.symm))).trans c1
      have HP2 := Lib.hid (HP2.out w2 u2 hg2)
      have HG2 := Lib.hid hg2
      clear hg2
      go_wp2_with fail
      refine HP2.out.mono ?_
      rintro e w3 ⟨u3, rfl, hg3⟩
      have HG3 := Lib.hid (HG.out.trans (HG2.out.trans hg3))
      clear hg3
      go_wp2_with fail
      go_roundw
      · refine ⟨k + 1, hkl, by simp, Lib.hid ?_⟩
        have h := HG3.out
        rw [HNX.out, ← List.append_assoc, ← List.append_assoc]
        exact h
      · simp [intOf]; omega
    · have hke : k = ps.length := by omega
      subst hke
      rw [List.take_length] at hg
      have HG := Lib.hid hg
      clear hg
      go_wp2_with fail
      go_ret
      exact ⟨_, rfl, HG.out⟩
end
section
open Go.RowKit

/-- the pen: what is written, how many geometries have begun; one order for all -/
structure IsPn (B : Nat) (w : World) (pb : Nat) (v : Value) (l : List UInt8) (lt : Bool) (n : Nat) : Prop where
  base : B ≤ pb
  blk : ∃ b o c, w.heap[pb]? = some (.cells #[v, .int .i64 (n : Nat), .slice (some ⟨b, o, none⟩) 1 c] 116 (0, 0)) ∧ 1 ≤ c ∧ Apt w pb b ∧ w.cell? ⟨b, o, none⟩ = some (.bool lt)
  own : OwnB B w v l
  ne : v.ownBlock ≠ some pb
section
variable {B pb n : Nat} {w : World} {v : Value} {l : List UInt8} {lt : Bool}
theorem IsPn.pblt (h : IsPn B w pb v l lt n) : pb < w.heap.size := by obtain ⟨_, _, _, h1, _⟩ := h.blk; exact lt_of_heap h1
theorem IsPn.c0 (h : IsPn B w pb v l lt n) : w.cell? ⟨pb, 0, none⟩ = some v := by obtain ⟨_, _, _, h1, _⟩ := h.blk; simp [World.cell?, h1]
theorem IsPn.fz (h : IsPn B w pb v l lt n) (j : Nat) : w.frozen? ⟨pb, j, none⟩ = false := by obtain ⟨_, _, _, h1, _⟩ := h.blk; simp [World.frozen?, h1]
theorem IsPn.below {w' : World} (h : IsPn B w pb v l lt n) (hb : Below w.heap.size w w') : IsPn B w' pb v l lt n := by
  have hlt := h.pblt
  obtain ⟨b, o, c, h1, h2, h3, h4⟩ := h.blk
  exact ⟨h.base, ⟨b, o, c, (hb.block _ hlt).trans h1, h2, (KeepP.of_below hlt hb b h3).2, (hb.cell (p := ⟨b, o, none⟩) h3.1).trans h4⟩, ownsRow_below h.own hb, h.ne⟩
theorem IsPn.apt {w' : World} (h : IsPn B w pb v l lt n) (hb : Below w.heap.size w w') (b : Nat) (h1 : w.heap.size ≤ b) (h2 : b < w'.heap.size) : Apt w' pb b := by
  have hlt := h.pblt
  refine ⟨h2, by omega, fun u hu e => ?_⟩
  rw [hb.cell (p := ⟨pb, 0, none⟩) hlt, h.c0] at hu
  cases hu
  have := (World.ownsRow.lt h.own b e).2
  omega
/-- behind what was put to its bytes and the store of them -/
theorem IsPn.put {v' : Value} {l' : List UInt8} {w1 : World} (h : IsPn B w pb v l lt n) (hg : GrewB B w v l' v' w1) (hB : B ≤ w.heap.size) :
    IsPn B (w1.setCell ⟨pb, 0, none⟩ v') pb v' l' lt n ∧ KeepP pb w (w1.setCell ⟨pb, 0, none⟩ v') ∧ Below B w (w1.setCell ⟨pb, 0, none⟩ v') := by
  have hlt := h.pblt
  obtain ⟨b, o, c, h1, h2, h3, h4⟩ := h.blk
  have hb1 : w1.heap[pb]? = _ := (hg.grown.block pb hlt (fun e => h.ne e.symm)).trans h1
  have hst := heap_store (cs := [v, .int .i64 (n : Nat), .slice (some ⟨b, o, none⟩) 1 c]) hb1 (j := 0) v'
  have hne' : v'.ownBlock ≠ some pb := fun e => by
    rcases hg.blk pb e with h' | h'
    · exact h.ne h'
    · omega
  have hset : ∀ k, k ≠ pb → (w1.setCell ⟨pb, 0, none⟩ v').heap[k]? = w1.heap[k]? := fun k hk => Below.heap_setCell w1 _ _ k hk
  have hK : KeepP pb w (w1.setCell ⟨pb, 0, none⟩ v') := fun k ⟨k1, k2, k3⟩ => by
    have hno := k3 v h.c0
    refine ⟨(hset k k2).trans (hg.grown.block k k1 (fun e => hno e.symm)), by have := hg.grown.size; simp [World.setCell]; omega, k2, fun u hu e => ?_⟩
    simp [World.cell?, hst] at hu
    subst hu
    rcases hg.blk k e with h' | h'
    · exact hno h'
    · omega
  refine ⟨⟨h.base, ⟨b, o, c, hst, h2, (hK b h3).2, (World.cell?_of_block (a := ⟨b, o, none⟩) (hK b h3).1).trans h4⟩, World.ownsRow.kept hg.own (grownBy_set w1 ⟨pb, 0, none⟩ _) (.inr hne'), hne'⟩, hK, (hg.below h.own hB).setCell h.base _⟩
end

theorem porder_any {B pb n : Nat} {v : Value} {l : List UInt8} {lt : Bool} (w : World) (h : IsPn B w pb v l lt n) (hn : n < 9223372036854775806) :
    Calls Tryz.prog 68 #[.pointer (some ⟨pb, 0, none⟩)] w fun e w' => e = .returned (.bool lt) ∧ IsPn B w' pb v l lt (n + 1) ∧ Below B w w' ∧ KeepP pb w w' := by
  obtain ⟨b, o, c, hblk, hc, ha, hcell⟩ := h.blk
  have hp1 : w.cell? ⟨pb, 1, none⟩ = some (.int .i64 n) := by simp [World.cell?, hblk]
  have hp2 : w.cell? ⟨pb, 2, none⟩ = some (.slice (some ⟨b, o, none⟩) 1 c) := by simp [World.cell?, hblk]
  have hf1 : w.frozen? ⟨pb, 1, none⟩ = false := by simp [World.frozen?, hblk]
  obtain ⟨L, hL⟩ : ∃ L : Nat, 1 = L := ⟨_, rfl⟩
  obtain ⟨mi, hmi0⟩ : ∃ mi : Nat, 0 = mi := ⟨_, rfl⟩
  have hmi : mi < L := by omega
  have hL0 : (L : Int) ≠ 0 := by omega
  have hLl : (L : Int) ≤ 1 := by omega
  have hwr : IntKind.i64.wrap ((L : Int) - 1) = (L : Int) - 1 := by rw [IntKind.wrap_i64]; omega
  have hif : (if (L : Int) - 1 < (n : Int) then (L : Int) - 1 else (n : Int)) = mi := by split <;> omega
  have hcell' : w.cell? ⟨b, o + mi, none⟩ = some (.bool lt) := by rw [← hmi0]; exact hcell
  have hbp : pb ≠ b := fun e => ha.2.1 e.symm
  have HPR : Hid (∀ w', w' = w.setCell ⟨pb, 1, none⟩ (.int .i64 (n + 1)) → IsPn B w' pb v l lt (n + 1) ∧ Below B w w' ∧ KeepP pb w w') := Lib.hid (by
    rintro w' rfl
    have hst := heap_store (cs := [v, .int .i64 (n : Nat), .slice (some ⟨b, o, none⟩) 1 c]) hblk (j := 1) (.int .i64 (n + 1))
    have hst' : (w.setCell ⟨pb, 1, none⟩ (.int .i64 (n + 1))).heap[pb]? = some (.cells #[v, .int .i64 ((n + 1 : Nat) : Int), .slice (some ⟨b, o, none⟩) 1 c] 116 (0, 0)) := hst
    have hK : KeepP pb w (w.setCell ⟨pb, 1, none⟩ (.int .i64 (n + 1))) := fun k ⟨k1, k2, k3⟩ => by
      refine ⟨Below.heap_setCell w _ _ k (by show k ≠ pb; exact k2), by simpa [World.setCell] using k1, k2, fun u hu => ?_⟩
      simp [World.cell?, hst'] at hu
      subst hu; exact k3 _ h.c0
    exact ⟨⟨h.base, ⟨b, o, c, hst', hc, (hK b ha).2, (World.cell?_of_block (a := ⟨b, o, none⟩) (hK b ha).1).trans hcell⟩, World.ownsRow.kept h.own (grownBy_set w ⟨pb, 1, none⟩ _) (.inr h.ne), h.ne⟩, (Below.refl _ _).setCell h.base _, hK⟩)
  rw [hL] at hp2
  clear h ha hblk hcell hL hmi0
  go_enter Tryz.func68, Tryz.ntmps68
  go_wp2
  obtain ⟨W1, hW1⟩ : ∃ W1, W1 = w.setCell ⟨pb, 1, none⟩ (.int .i64 (n + 1)) := ⟨_, rfl⟩
  rw [← hW1]
  have hq1 : W1.cell? ⟨pb, 2, none⟩ = some (.slice (some ⟨b, o, none⟩) L c) := by rw [hW1, World.cell?_setCell_other _ _ _ _ (by simp)]; exact hp2
  have hqc : W1.cell? ⟨b, o + mi, none⟩ = some (.bool lt) := by rw [hW1, cell_setFar _ _ hbp]; exact hcell'
  have HW1 := Lib.hid (HPR.out _ hW1)
  clear hW1 HPR hp1 hp2 hf1 hcell'
  go_quiet (fail)
  go_wp2
  go_ret
  exact ⟨rfl, HW1.out.1.below (below_drewN (Below.refl _ _) _), below_drewN HW1.out.2.1 _, HW1.out.2.2.drewN _⟩
end
end Go.Proofs.YtlffgepnhhnadaaGreatDoor.Pl
