/- plumbref17's Walk: its state; fault and number, walked. plumbref17's small readers, walked: finite, isNaN, member, count, a pair, pairs, a spot. -/
import Derived.Test.YtlffgepnhhnadaaGreatDoorRfP
namespace Go.Proofs.YtlffgepnhhnadaaGreatDoor.Pl
section
open Go.RowKit
variable {oc oc0 : Nat}

theorem grown_trans {a b c : World} {row : Option Nat} (h : a.grownBy b row) (k : b.grownBy c row) : a.grownBy c row :=
  ⟨k.os.trans h.os, k.tape.trans h.tape, k.output.trans h.output, Nat.le_trans h.size k.size, fun i hi hn => (k.block i (Nat.lt_of_lt_of_le hi h.size) hn).trans (h.block i hi hn)⟩
/-- the blocks that the walk in wb does not write -/
def AptW (w : World) (wb b : Nat) : Prop := b < w.heap.size ∧ b ≠ wb ∧ ∀ v, w.cell? ⟨wb, 5, none⟩ = some v → v.ownBlock ≠ some b
def KeepW (wb : Nat) (w w' : World) : Prop := ∀ b, AptW w wb b → w'.heap[b]? = w.heap[b]? ∧ AptW w' wb b
theorem KeepW.refl (wb : Nat) (w : World) : KeepW wb w w := fun _ h => ⟨rfl, h⟩
theorem KeepW.trans {wb : Nat} {a b c : World} (h : KeepW wb a b) (k : KeepW wb b c) : KeepW wb a c := fun i hi => ⟨(k i (h i hi).2).1.trans (h i hi).1, (k i (h i hi).2).2⟩
theorem KeepW.of_below {wb : Nat} {w w' : World} (hp : wb < w.heap.size) (h : Below w.heap.size w w') : KeepW wb w w' := fun b ⟨h1, h3, h4⟩ =>
  ⟨h.block b h1, Nat.lt_of_lt_of_le h1 h.size, h3, fun v hv => h4 v (by rw [← h.cell (p := ⟨wb, 5, none⟩) hp]; exact hv)⟩
theorem KeepW.keeps {wb : Nat} {w w' : World} (h : KeepW wb w w') : Keeps (AptW w wb) w w' := fun b _ hb ho _ => (h b hb).1.trans ho
theorem KeepW.drewN {wb : Nat} {w w' : World} (h : KeepW wb w w') (n : Nat) : KeepW wb w (w'.drewN n) := h
theorem Sl.walk {wb : Nat} {w w' : World} {v : Value} {n : Nat} {cs : List Value} (h : Sl (AptW w wb) w v n cs) (k : KeepW wb w w') : Sl (AptW w' wb) w' v n cs := (h.keeps k.keeps).mono fun b _ hb => (k b hb).2
/-- the blocks made since w that the walk does not write -/
def NewW (w w' : World) (wb b : Nat) : Prop := AptW w' wb b ∧ w.heap.size ≤ b
theorem NewW.of {w0 w w' : World} {wb b : Nat} (h : NewW w w' wb b) (hs : w0.heap.size ≤ w.heap.size) : NewW w0 w' wb b := ⟨h.1, Nat.le_trans hs h.2⟩

def erC : Option PErr → Int | none => 0 | some e => e.2
def erP : Option PErr → Int | none => 0 | some e => e.1
/-- the walk's state: the bytes, how many were gone through, the first error, a bound on its orders -/
structure IsWk (B : Nat) (w : World) (wb : Nat) (v : Value) (l : List UInt8) (at_ : Nat) (deep : Int) (er : Option PErr) (oc : Nat) : Prop where
  base : B ≤ wb
  ole : oc ≤ at_
  le : at_ ≤ l.length
  nz : ∀ e, er = some e → e.2 ≠ 0
  bytes : Bytes (AptW w wb) w v l
  mem : ∃ (ov : Value) (os : List Bool), w.heap[wb]? = some (.cells #[v, .int .i64 at_, .int .i64 deep, .int .i64 (erC er), .int .i64 (erP er), ov] 99 (0, 0)) ∧ OwnO B w ov os ∧ os.length ≤ oc ∧ ov.ownBlock ≠ some wb
/-- what a step of the walk leaves -/
def StepW (B wb : Nat) (w w' : World) : Prop := KeepW wb w w' ∧ Below B w w'
theorem StepW.refl (B wb : Nat) (w : World) : StepW B wb w w := ⟨.refl _ _, Below.refl _ _⟩
theorem StepW.trans {B wb : Nat} {a b c : World} (h : StepW B wb a b) (k : StepW B wb b c) : StepW B wb a c := ⟨h.1.trans k.1, h.2.trans k.2⟩
theorem StepW.undrew {B wb n : Nat} {a b : World} (h : StepW B wb (a.drewN n) b) : StepW B wb a b := ⟨h.1, h.2.os, h.2.tape, h.2.output, h.2.size, h.2.block⟩
theorem StepW.drewN {B wb : Nat} {a b : World} (h : StepW B wb a b) (n : Nat) : StepW B wb a (b.drewN n) := ⟨h.1.drewN n, below_drewN h.2 n⟩

section
variable {B wb at_ : Nat} {w : World} {v : Value} {l : List UInt8} {deep : Int} {er : Option PErr}
theorem IsWk.lt (h : IsWk B w wb v l at_ deep er oc) : wb < w.heap.size := by obtain ⟨_, _, h1, _⟩ := h.mem; exact lt_of_heap h1
theorem IsWk.drewN (h : IsWk B w wb v l at_ deep er oc) (n : Nat) : IsWk B (w.drewN n) wb v l at_ deep er oc := ⟨h.base, h.ole, h.le, h.nz, h.bytes, h.mem⟩
theorem IsWk.c1 (h : IsWk B w wb v l at_ deep er oc) : w.cell? ⟨wb, 1, none⟩ = some (.int .i64 at_) := by obtain ⟨_, _, h1, _⟩ := h.mem; simp [World.cell?, h1]
theorem IsWk.c2 (h : IsWk B w wb v l at_ deep er oc) : w.cell? ⟨wb, 2, none⟩ = some (.int .i64 deep) := by obtain ⟨_, _, h1, _⟩ := h.mem; simp [World.cell?, h1]
theorem IsWk.c3 (h : IsWk B w wb v l at_ deep er oc) : w.cell? ⟨wb, 3, none⟩ = some (.int .i64 (erC er)) := by obtain ⟨_, _, h1, _⟩ := h.mem; simp [World.cell?, h1]
theorem IsWk.c4 (h : IsWk B w wb v l at_ deep er oc) : w.cell? ⟨wb, 4, none⟩ = some (.int .i64 (erP er)) := by obtain ⟨_, _, h1, _⟩ := h.mem; simp [World.cell?, h1]
theorem IsWk.fz (h : IsWk B w wb v l at_ deep er oc) (j : Nat) : w.frozen? ⟨wb, j, none⟩ = false := by obtain ⟨_, _, h1, _⟩ := h.mem; simp [World.frozen?, h1]
theorem IsWk.len (h : IsWk B w wb v l at_ deep er oc) : l.length ≤ 140737488355328 := by obtain ⟨A, c, _, _, h, _⟩ := h.bytes; exact h
/-- behind stores into its own number cells -/
theorem IsWk.turn (h : IsWk B w wb v l at_ deep er oc) : ∃ ov, w.heap[wb]? = some (.cells #[v, .int .i64 at_, .int .i64 deep, .int .i64 (erC er), .int .i64 (erP er), ov] 99 (0, 0)) ∧
    ∀ (W : World) (a' : Nat) (er' : Option PErr), W.heap[wb]? = some (.cells #[v, .int .i64 a', .int .i64 deep, .int .i64 (erC er'), .int .i64 (erP er'), ov] 99 (0, 0)) → w.grownBy W (some wb) → at_ ≤ a' → a' ≤ l.length → (∀ e, er' = some e → e.2 ≠ 0) →
      IsWk B W wb v l a' deep er' oc ∧ StepW B wb w W := by
  obtain ⟨ov, os, h1, h2, h3, h4⟩ := h.mem
  have hlt := h.lt
  refine ⟨ov, h1, fun W a' er' hW hg ha hal hnz => ?_⟩
  have hk : KeepW wb w W := fun b ⟨g1, g3, g4⟩ => ⟨hg.block b g1 (fun e => g3 (Option.some.inj e)), Nat.lt_of_lt_of_le g1 hg.size, g3, fun u hu => by
    simp [World.cell?, hW] at hu; subst hu; exact g4 ov (by simp [World.cell?, h1])⟩
  refine ⟨⟨h.base, Nat.le_trans h.ole ha, hal, hnz, h.bytes.walk hk, ov, os, hW, World.ownsRow.kept h2 hg (.inr h4), h3, h4⟩, hk, hg.os, hg.tape, hg.output, hg.size, fun k hk => ?_⟩
  by_cases hks : k < w.heap.size
  · exact hg.block k hks (fun e => by have := Option.some.inj e; have := h.base; omega)
  · have := h.base; omega
/-- behind the making of something -/
theorem IsWk.below {w' : World} (h : IsWk B w wb v l at_ deep er oc) (hb : Below w.heap.size w w') : IsWk B w' wb v l at_ deep er oc := by
  have hlt := h.lt
  have hk : KeepW wb w w' := .of_below hlt hb
  obtain ⟨ov, os, h1, h2, h3, h4⟩ := h.mem
  exact ⟨h.base, h.ole, h.le, h.nz, h.bytes.walk hk, ov, os, (hb.block _ hlt).trans h1, World.ownsRow.kept h2 (show w.grownBy w' none from ⟨hb.os, hb.tape, hb.output, hb.size, fun k hk _ => hb.block k hk⟩) (by cases ov.ownBlock with | none => exact .inl rfl | some x => exact .inr (by simp)), h3, h4⟩
theorem IsWk.apt {w' : World} (h : IsWk B w wb v l at_ deep er oc) (hb : Below w.heap.size w w') (b : Nat) (h1 : w.heap.size ≤ b) (h2 : b < w'.heap.size) : AptW w' wb b := by
  have hpl := h.lt
  refine ⟨h2, by omega, fun x hx => ?_⟩
  obtain ⟨ov, os, g1, g2, _⟩ := h.mem
  rw [hb.cell (p := ⟨wb, 5, none⟩) hpl] at hx
  simp [World.cell?, g1] at hx; subst hx
  intro e; have := (World.ownsRow.lt g2 _ e).2; omega
end

/-- behind a change of blocks made since that the walk does not write -/
theorem IsWk.other {B wb a0 a : Nat} {w1 wr W : World} {v : Value} {l : List UInt8} {deep : Int} {er0 er : Option PErr} (h1 : IsWk B w1 wb v l a0 deep er0 oc0) (hk : StepW B wb w1 wr) (h : IsWk B wr wb v l a deep er oc) (o : Option Nat) (hg : wr.grownBy W o) (ho : ∀ g, o = some g → w1.heap.size ≤ g ∧ AptW wr wb g) (hBw : B ≤ w1.heap.size) :
    IsWk B W wb v l a deep er oc ∧ StepW B wb w1 W ∧ (∀ b, AptW wr wb b → AptW W wb b) ∧ ∀ b, wr.heap.size ≤ b → b < W.heap.size → AptW W wb b := by
  obtain ⟨ov, os, m1, m2, m3, m4⟩ := h.mem
  have hlt := h.lt
  have hpb : W.heap[wb]? = wr.heap[wb]? := hg.block wb hlt (fun e => (ho wb e.symm).2.2.1 rfl)
  have hov : ∀ x, W.cell? ⟨wb, 5, none⟩ = some x → x = ov := fun x hx => by
    rw [World.cell?_of_block (w := wr) (a := ⟨wb, 5, none⟩) hpb] at hx
    simp [World.cell?, m1] at hx; exact hx.symm
  have hap : ∀ b, AptW wr wb b → AptW W wb b := fun b hb => ⟨Nat.lt_of_lt_of_le hb.1 hg.size, hb.2.1, fun x hx => by rw [hov x hx]; exact hb.2.2 ov (by simp [World.cell?, m1])⟩
  have hK : KeepW wb w1 W := fun b hb => by
    obtain ⟨k1, k2⟩ := hk.1 b hb
    refine ⟨(hg.block b k2.1 (fun e => ?_)).trans k1, hap b k2⟩
    have := (ho b e.symm).1; have := hb.1; omega
  have hB : Below B w1 W := by
    refine ⟨hg.os.trans hk.2.os, hg.tape.trans hk.2.tape, hg.output.trans hk.2.output, Nat.le_trans hk.2.size hg.size, fun k hkB => ?_⟩
    rw [hg.block k (by have := hk.2.size; omega) (fun e => by have := (ho k e.symm).1; omega)]
    exact hk.2.block k hkB
  refine ⟨⟨h.base, h.ole, h.le, h.nz, h1.bytes.walk hK, ov, os, hpb.trans m1, World.ownsRow.kept m2 hg ?_, m3, m4⟩, ⟨hK, hB⟩, hap, fun b hb1 hb2 => ⟨hb2, by omega, fun x hx => ?_⟩⟩
  · cases hov' : ov.ownBlock with
    | none => exact .inl rfl
    | some x => exact .inr fun e => (ho x e.symm).2.2.2 ov (by simp [World.cell?, m1]) hov'
  · rw [hov x hx]; intro e; have := (World.ownsRow.lt m2 _ e).2; omega

/-- the first error stays -/
theorem fault_any {B wb at_ : Nat} {v : Value} {l : List UInt8} {deep : Int} (p c : Int) (w : World) (h : IsWk B w wb v l at_ deep none oc) (hc : c ≠ 0) :
    Calls Tryz.prog 58 #[.pointer (some ⟨wb, 0, none⟩), .int .i64 p, .int .i64 c] w fun e w' => e = .returned (.tuple #[]) ∧ IsWk B w' wb v l at_ deep (some (p, c)) oc ∧ StepW B wb w w' := by
  have c3 := h.c3
  have f3 := h.fz 3
  have f4 := h.fz 4
  have c4 := h.c4
  have HL := Lib.hid h.le
  obtain ⟨ov, hblk, HT⟩ := h.turn
  simp only [erC] at c3
  simp only [erP] at c4
  have HT := Lib.hid HT
  have HB := Lib.hid hblk
  clear h hblk
  go_enter Tryz.func58, Tryz.ntmps58
  go_wp2
  go_end0
  refine ⟨rfl, HT.out _ at_ (some (p, c)) ?_ ?_ (Nat.le_refl _) HL.out (fun e he => by cases he; exact hc)⟩
  · have r1 := heap_store (cs := [_, _, _, _, _, _]) HB.out (j := 3) (.int .i64 c)
    have r2 := heap_store (cs := [_, _, _, _, _, _]) (by simpa using r1) (j := 4) (.int .i64 p)
    simpa [erC, erP] using r2
  · exact grown_trans (grownBy_set w ⟨wb, 3, none⟩ _) (grownBy_set _ ⟨wb, 4, none⟩ _)

theorem IsWk.go {B wb at_ : Nat} {w : World} {v : Value} {l : List UInt8} {deep : Int} {er : Option PErr} (h : IsWk B w wb v l at_ deep er oc) (n k : Nat) (hk : at_ + k ≤ l.length) :
    IsWk B ((w.drewN n).setCell ⟨wb, 1, none⟩ (.int .i64 (at_ + k))) wb v l (at_ + k) deep er oc ∧ StepW B wb w ((w.drewN n).setCell ⟨wb, 1, none⟩ (.int .i64 (at_ + k))) := by
  obtain ⟨ov, hblk, HT⟩ := h.turn
  refine HT _ (at_ + k) er ?_ ?_ (Nat.le_add_right _ _) hk h.nz
  · have r1 := heap_store (w := w.drewN n) (cs := [_, _, _, _, _, _]) hblk (j := 1) (.int .i64 (at_ + k))
    simpa using r1
  · have h2 := grownBy_set (w.drewN n) ⟨wb, 1, none⟩ (.int .i64 (at_ + k))
    exact ⟨h2.os, h2.tape, h2.output, h2.size, h2.block⟩

theorem num_dead {B wb at_ : Nat} {v : Value} {l : List UInt8} {deep : Int} {er : PErr} (size : Nat) (little : Bool) (w : World) (h : IsWk B w wb v l at_ deep (some er) oc) :
    Calls Tryz.prog 77 #[.pointer (some ⟨wb, 0, none⟩), .int .i64 size, .bool little] w fun e w' => e = .returned (.int .u64 0) ∧ w = w' := by
  have c3 := h.c3
  have hnz := h.nz er rfl
  simp only [erC] at c3
  have hb : (er.2 != 0) = true := by simpa using hnz
  clear h
  generalize er.2 = c at *
  go_enter Tryz.func77, Tryz.ntmps77
  go_wp2
  go_ret
  exact ⟨rfl, rfl⟩

theorem num_short {B wb at_ : Nat} {v : Value} {l : List UInt8} {deep : Int} (size : Nat) (little : Bool) (w : World) (h : IsWk B w wb v l at_ deep none oc) (hs : l.length - at_ < size) :
    Calls Tryz.prog 77 #[.pointer (some ⟨wb, 0, none⟩), .int .i64 size, .bool little] w fun e w' => e = .returned (.int .u64 0) ∧ IsWk B w' wb v l at_ deep (some ((at_ : Int), 160)) oc ∧ StepW B wb w w' := by
  have c3 := h.c3
  have c1 := h.c1
  have hle := h.le
  have H := Lib.hid h
  obtain ⟨ov, os, hblk, _⟩ := h.mem
  obtain ⟨A, c, rfl, hc, hl2, hrow⟩ := h.bytes
  have c0 : w.cell? ⟨wb, 0, none⟩ = some (.slice A l.length c) := by simp [World.cell?, hblk]
  simp only [erC] at c3
  have hnl : (l.length : Int) - at_ < size := by omega
  clear hrow hblk h
  go_enter Tryz.func77, Tryz.ntmps77
  go_wp2
  go_quiet (fail)
  go_wp2_with fail
  refine (fault_any (at_ : Int) 160 _ (H.out.drewN _) (by decide)).mono ?_
  rintro e w' ⟨rfl, h1, h2⟩
  have HH := Lib.hid (And.intro h1 h2)
  clear h1 h2
  go_wp2
  go_ret
  exact ⟨rfl, HH.out.1, HH.out.2.undrew⟩

set_option maxRecDepth 100000 in
theorem num_got {B wb at_ : Nat} {v : Value} {l : List UInt8} {deep : Int} (size : Nat) (little : Bool) (w : World) (h : IsWk B w wb v l at_ deep none oc) (hs : 1 ≤ size ∧ size ≤ 8) (hl : at_ + size ≤ l.length) :
    Calls Tryz.prog 77 #[.pointer (some ⟨wb, 0, none⟩), .int .i64 size, .bool little] w fun e w' => e = .returned (.int .u64 (wd l at_ size little : Nat)) ∧ IsWk B w' wb v l (at_ + size) deep none oc ∧ StepW B wb w w' := by
  have c3 := h.c3
  have c1 := h.c1
  have f1 := h.fz 1
  have HG := Lib.hid h.go
  obtain ⟨ov, os, hblk, _⟩ := h.mem
  obtain ⟨A, c, rfl, hc, hl2, hrow⟩ := h.bytes
  have c0 : w.cell? ⟨wb, 0, none⟩ = some (.slice A l.length c) := by simp [World.cell?, hblk]
  simp only [erC] at c3
  have hnl : ¬ (l.length : Int) - at_ < size := by omega
  obtain ⟨b, o, rfl, hb, _, hcell⟩ := hrow.at (by intro h; simp at h; subst h; simp at hl; omega)
  have HC := Lib.hid hcell
  clear hcell hrow hblk h
  go_enter Tryz.func77, Tryz.ntmps77
  go_wp2
  go_quiet (fail)
  go_wp2
  go_loop [7, 8] (fun v i => ∃ k : Nat, k ≤ size ∧ i = .int .i64 k ∧ v = .int .u64 (decB ((l.drop (if little then at_ + size - k else at_)).take k) little : Nat)) (fun _ i => size - (intOf i).toNat)
  case atStart => exact ⟨0, Nat.zero_le _, rfl, by cases little <;> simp [decB]⟩
  case round =>
    obtain ⟨k, hk, rfl, rfl⟩ := hrel
    by_cases hkl : k < size
    · cases little
      · have hx : at_ + k < l.length := by omega
        have cc := HC.out (at_ + k) (bv l[at_ + k]) (by rw [List.getElem?_map, List.getElem?_eq_getElem hx]; rfl)
        have hnx := dec_next false hx
        have hvl := decB_lt false ((l.drop at_).take k)
        have hck := (l[at_ + k]).toNat_lt
        simp only [Bool.false_eq_true, if_false] at hnx ⊢
        generalize hdv : decB ((l.drop at_).take k) false = dv at hnx hvl ⊢
        simp only [bv] at cc
        generalize (l[at_ + k]).toNat = cv at cc hnx hck
        have hlen : ((l.drop at_).take k).length = k := by simp; omega
        rw [hlen] at hvl
        have hp7 : (256 : Nat) ^ k ≤ 72057594037927936 := Nat.le_trans (Nat.pow_le_pow_right (by omega) (show k ≤ 7 by omega)) (by decide)
        have hdv8 : dv < 72057594037927936 := by omega
        have hw1 : IntKind.u64.wrap ((dv : Int) * 256) = (dv : Int) * 256 := by rw [IntKind.wrap_u64]; omega
        have hw2 : IntKind.u64.wrap ((dv : Int) * 256 + (cv : Int)) = ((256 * dv + cv : Nat) : Int) := by rw [IntKind.wrap_u64]; omega
        have HN := Lib.hid hnx
        clear hnx hdv hvl hp7 hlen
        go_wp2
        refine ⟨⟨k + 1, by omega, rfl, ?_⟩, by simp [intOf]; omega⟩
        rw [HN.out]; simp
      · have hx : at_ + size - (k + 1) < l.length := by omega
        have hxi : (at_ : Int) + size - 1 - k = ((at_ + size - (k + 1) : Nat) : Int) := by omega
        have cc := HC.out (at_ + size - (k + 1)) (bv l[at_ + size - (k + 1)]) (by rw [List.getElem?_map, List.getElem?_eq_getElem hx]; rfl)
        have hnx := decL_next (i := k) hx
        rw [show at_ + size - (k + 1) + 1 = at_ + size - k by omega] at hnx
        have hvl := decB_lt true ((l.drop (at_ + size - k)).take k)
        have hck := (l[at_ + size - (k + 1)]).toNat_lt
        simp only [if_true]
        generalize hdv : decB ((l.drop (at_ + size - k)).take k) true = dv at hnx hvl ⊢
        simp only [bv] at cc
        have hlen : ((l.drop (at_ + size - k)).take k).length = k := by simp; omega
        rw [hlen] at hvl
        generalize (l[at_ + size - (k + 1)]).toNat = cv at cc hnx hck
        have hp7 : (256 : Nat) ^ k ≤ 72057594037927936 := Nat.le_trans (Nat.pow_le_pow_right (by omega) (show k ≤ 7 by omega)) (by decide)
        have hdv8 : dv < 72057594037927936 := by omega
        have hw1 : IntKind.u64.wrap ((dv : Int) * 256) = (dv : Int) * 256 := by rw [IntKind.wrap_u64]; omega
        have hw2 : IntKind.u64.wrap ((dv : Int) * 256 + (cv : Int)) = ((cv + 256 * dv : Nat) : Int) := by rw [IntKind.wrap_u64]; omega
        have HN := Lib.hid hnx
        clear hnx hdv hvl hp7 hlen
        go_wp2
        refine ⟨⟨k + 1, by omega, rfl, ?_⟩, by simp [intOf]; omega⟩
        rw [HN.out]; simp
    · have hke : k = size := by omega
      subst hke
      have hstep := fun n => HG.out n k hl
      go_wp2
      go_ret
      refine ⟨?_, (hstep _).1, (hstep _).2⟩
      cases little
      · simp [wd]
      · simp [wd]
end
section
open Go.RowKit
variable {oc oc0 : Nat}

theorem rfin_any (b : Nat) (w : World) (hb : b < 18446744073709551616) :
    Calls Tryz.prog 97 #[.int .u64 b] w fun e w' => e = .returned (.bool (decide (cls b < 3))) ∧ w = w' := by
  have h1 := u64_low11 ((b : Int) / 4503599627370496) (by omega) (by omega)
  have h2 : ((b : Int) / 4503599627370496 % 2048 != 2047) = decide (cls b < 3) := by
    have he : (b : Int) / 4503599627370496 % 2048 = ((b / 4503599627370496 % 2048 : Nat) : Int) := by omega
    have hl : b / 4503599627370496 % 2048 < 2048 := Nat.mod_lt _ (by decide)
    rw [he]
    unfold cls
    generalize b / 4503599627370496 % 2048 = e at *
    rw [Bool.eq_iff_iff]
    simp only [bne_iff_ne, ne_eq, decide_eq_true_eq]
    repeat' split
    all_goals omega
  have H1 := Lib.hid h1
  have H2 := Lib.hid h2
  clear h1 h2
  go_enter Tryz.func97, Tryz.ntmps97
  go_wp2
  go_ret
  refine ⟨?_, rfl⟩
  simp only [Array.getD, H1.out, H2.out]
  rfl
theorem nan_any (b : Nat) (w : World) (hb : b < 18446744073709551616) :
    Calls Tryz.prog 96 #[.int .u64 b] w fun e w' => e = .returned (.bool (decide (cls b = 4))) ∧ w = w' := by
  have h1 := u64_low52 (b : Int) (by omega) (by omega)
  have hf := rfin_any b w hb
  have h3 : cls b < 3 → ¬ cls b = 4 := by omega
  have h4 : ¬ cls b < 3 → ((b : Int) % 4503599627370496 != 0) = decide (cls b = 4) := by
    have he : (b : Int) % 4503599627370496 = ((b % 4503599627370496 : Nat) : Int) := by omega
    have hl : b / 4503599627370496 % 2048 < 2048 := Nat.mod_lt _ (by decide)
    rw [he]
    unfold cls
    generalize b / 4503599627370496 % 2048 = e at *
    generalize b % 4503599627370496 = f at *
    rw [Bool.eq_iff_iff]
    simp only [bne_iff_ne, ne_eq, decide_eq_true_eq]
    repeat' split
    all_goals omega
  have HF := Lib.hid hf
  have H1 := Lib.hid h1
  have H3 := Lib.hid h3
  have H4 := Lib.hid h4
  clear h1 hf h3 h4
  by_cases hc : cls b < 3
  · have hd : decide (cls b < 3) = true := decide_eq_true hc
    rw [hd] at HF
    go_enter Tryz.func96, Tryz.ntmps96
    go_wp2_with (go_at_call 97; refine HF.out.mono ?_; rintro e w1 ⟨rfl, rfl⟩)
    go_ret
    exact ⟨ret_bool (by simp [H3.out hc]), rfl⟩
  · have hd : decide (cls b < 3) = false := decide_eq_false hc
    rw [hd] at HF
    go_enter Tryz.func96, Tryz.ntmps96
    go_wp2_with (go_at_call 97; refine HF.out.mono ?_; rintro e w1 ⟨rfl, rfl⟩)
    go_ret
    exact ⟨ret_bool (by rw [← H4.out hc, ← H1.out]), rfl⟩
theorem memb_any (home kind : Int) (w : World) (hh : home = 0 ∨ 4 ≤ home ∧ home ≤ 7) : Calls Tryz.prog 78 #[.int .i64 home, .int .i64 kind] w fun e w' => e = .returned (.bool (memberB home kind)) ∧ w = w' := by
  have h5 : home = 0 ∨ home = 4 ∨ home = 5 ∨ home = 6 ∨ home = 7 := by omega
  rcases h5 with rfl | rfl | rfl | rfl | rfl
  all_goals
    go_enter Tryz.func78, Tryz.ntmps78
    go_wp2
    go_ret
    refine ⟨ret_bool ?_, rfl⟩
    simp [memberB]
    try (rw [Bool.eq_iff_iff]; simp)

/-- what a reader of the walk's gives -/
def WPost {α : Type} (B : Nat) (w : World) (wb : Nat) (v : Value) (l : List UInt8) (deep : Int) (val : α → Value → World → Prop) (r : Except PErr (α × Nat)) (e : Ending) (w' : World) : Prop :=
  ∃ x u a er oc, e = .returned u ∧ val x u w' ∧ IsWk B w' wb v l a deep er oc ∧ StepW B wb w w' ∧ match r with
    | .ok y => x = y.1 ∧ a = y.2 ∧ er = none
    | .error z => er = some z

/-- a count's law; a ring's is not 0 -/
def cntR (l : List UInt8) (lt : Bool) (least : Nat) (ring : Bool) (at_ : Nat) : Except PErr (Nat × Nat) :=
  if l.length - at_ < 4 then .error (at_, 160) else if ring = true ∧ wd l at_ 4 lt = 0 then .error (at_, 176) else if l.length - (at_ + 4) < wd l at_ 4 lt * least then .error (at_, 173) else .ok (wd l at_ 4 lt, at_ + 4)
theorem cnt_plain (l : List UInt8) (lt : Bool) (least at_ : Nat) : cntR l lt least false at_ = countR l lt least at_ := by simp [cntR, countR]
theorem cnt_ring (l : List UInt8) (lt : Bool) (at_ : Nat) : ringR l lt at_ = match cntR l lt 16 true at_ with | .error e => .error e | .ok (n, a) => ptsR l lt n a := by
  unfold ringR cntR
  simp only [true_and]
  split
  · rfl
  split
  · rfl
  split
  · rfl
  · rfl

set_option maxRecDepth 100000 in
theorem cnt_any {B wb at_ : Nat} {v : Value} {l : List UInt8} {deep : Int} (little : Bool) (least : Nat) (ring : Bool) (hle : least ≤ 30) (w : World) (h : IsWk B w wb v l at_ deep none oc) :
    Calls Tryz.prog 81 #[.pointer (some ⟨wb, 0, none⟩), .bool little, .int .i64 least, .bool ring] w
      (WPost B w wb v l deep (fun n u _ => u = .int .i64 (n : Nat) ∧ n < 4294967296) (cntR l little least ring at_)) := by
  have c1 := h.c1
  have hd := h.len
  have H := Lib.hid h
  by_cases h4 : l.length - at_ < 4
  · have HRR : Hid (cntR l little least ring at_ = .error ((at_ : Int), 160)) := Lib.hid (by unfold cntR; rw [if_pos h4])
    have HN := Lib.hid (num_short 4 little w h h4)
    clear h h4
    go_enter Tryz.func81, Tryz.ntmps81
    go_wp2_with fail
    refine HN.out.mono ?_
    rintro e w1 ⟨rfl, h1, s1⟩
    have c3 : w1.cell? ⟨wb, 3, none⟩ = some (.int .i64 160) := h1.c3
    have H1 := Lib.hid (And.intro h1 s1)
    clear h1 s1
    go_wp2
    go_ret
    exact ⟨0, _, _, _, _, rfl, ⟨rfl, by decide⟩, H1.out.1, H1.out.2, by rw [HRR.out]⟩
  have hl4 : at_ + 4 ≤ l.length := by have := h.le; omega
  have hwl := wd_lt l at_ 4 little
  have HN := Lib.hid (num_got 4 little w h (by omega) hl4)
  have HR : Hid ((ring = true ∧ wd l at_ 4 little = 0 → cntR l little least ring at_ = .error ((at_ : Int), 176)) ∧ (¬ (ring = true ∧ wd l at_ 4 little = 0) → l.length - (at_ + 4) < wd l at_ 4 little * least → cntR l little least ring at_ = .error ((at_ : Int), 173)) ∧
      (¬ (ring = true ∧ wd l at_ 4 little = 0) → ¬ l.length - (at_ + 4) < wd l at_ 4 little * least → cntR l little least ring at_ = .ok (wd l at_ 4 little, at_ + 4))) := Lib.hid (by
    unfold cntR
    rw [if_neg h4]
    exact ⟨fun h1 => by rw [if_pos h1], fun h1 h2 => by rw [if_neg h1, if_pos h2], fun h1 h2 => by rw [if_neg h1, if_neg h2]⟩)
  generalize wd l at_ 4 little = x at hwl HN HR
  have hxl : x * least ≤ 4294967296 * 30 := Nat.mul_le_mul (by omega) hle
  have hw1 : IntKind.i64.wrap (x : Int) = x := by rw [IntKind.wrap_i64]; omega
  have hw2 : IntKind.i64.wrap ((x : Int) * least) = ((x * least : Nat) : Int) := by rw [IntKind.wrap_i64, ← Int.natCast_mul]; omega
  generalize hxy : x * least = y at hxl hw2 HR
  have HF := Lib.hid (fun (c : Int) (hc : c ≠ 0) W (hW : IsWk B W wb v l (at_ + 4) deep none oc) => fault_any (at_ : Int) c W hW hc)
  clear h h4
  go_enter Tryz.func81, Tryz.ntmps81
  go_wp2_with fail
  refine HN.out.mono ?_
  rintro e w1 ⟨rfl, h1, s1⟩
  have c3 : w1.cell? ⟨wb, 3, none⟩ = some (.int .i64 0) := h1.c3
  have c1 := h1.c1
  obtain ⟨ov, os, hblk, _⟩ := h1.mem
  obtain ⟨A, c, rfl, _, _, _⟩ := h1.bytes
  have c0 : w1.cell? ⟨wb, 0, none⟩ = some (.slice A l.length c) := by simp [World.cell?, hblk]
  have H1 := Lib.hid (And.intro h1 s1)
  clear h1 s1 hblk
  have hdi : (l.length : Int) - (at_ + 4) = ((l.length - (at_ + 4) : Nat) : Int) := by omega
  have hdl : l.length - (at_ + 4) ≤ l.length := Nat.sub_le _ _
  generalize l.length - (at_ + 4) = d at hdi hdl HR
  by_cases hr : ring = true ∧ x = 0
  · have hR := HR.out.1 hr
    have HRR := Lib.hid hR
    obtain ⟨rfl, rfl⟩ := hr
    clear hR
    go_wp2_with fail
    refine (HF.out 176 (by decide) w1 H1.out.1).mono ?_
    rintro e w2 ⟨rfl, h2, s2⟩
    have H2 := Lib.hid (And.intro h2 s2)
    clear h2 s2
    go_wp2
    go_ret
    exact ⟨0, _, _, _, _, rfl, ⟨rfl, by decide⟩, H2.out.1, H1.out.2.trans H2.out.2, by rw [HRR.out]⟩
  · have hx0 : ring = true → ¬ (x : Int) = 0 := fun h1 h2 => hr ⟨h1, by omega⟩
    by_cases hy : d < y
    · have HRR := Lib.hid (HR.out.2.1 hr hy)
      cases ring
      · go_wp2
        go_quiet (fail)
        go_wp2_with fail
        refine (HF.out 173 (by decide) _ (H1.out.1.drewN _)).mono ?_
        rintro e w2 ⟨rfl, h2, s2⟩
        have H2 := Lib.hid (And.intro h2 s2)
        clear h2 s2
        go_wp2
        go_ret
        exact ⟨0, _, _, _, _, rfl, ⟨rfl, by decide⟩, H2.out.1, H1.out.2.trans H2.out.2.undrew, by rw [HRR.out]⟩
      · have hx0 := hx0 rfl
        go_wp2
        go_quiet (fail)
        go_wp2_with fail
        refine (HF.out 173 (by decide) _ (H1.out.1.drewN _)).mono ?_
        rintro e w2 ⟨rfl, h2, s2⟩
        have H2 := Lib.hid (And.intro h2 s2)
        clear h2 s2
        go_wp2
        go_ret
        exact ⟨0, _, _, _, _, rfl, ⟨rfl, by decide⟩, H2.out.1, H1.out.2.trans H2.out.2.undrew, by rw [HRR.out]⟩
    · have HRR := Lib.hid (HR.out.2.2 hr hy)
      cases ring
      · go_wp2
        go_quiet (fail)
        go_wp2
        go_ret
        exact ⟨x, _, _, _, _, rfl, ⟨rfl, by simpa using hwl⟩, H1.out.1.drewN _, H1.out.2.drewN _, by rw [HRR.out]; exact ⟨rfl, rfl, rfl⟩⟩
      · have hx0 := hx0 rfl
        go_wp2
        go_quiet (fail)
        go_wp2
        go_ret
        exact ⟨x, _, _, _, _, rfl, ⟨rfl, by simpa using hwl⟩, H1.out.1.drewN _, H1.out.2.drewN _, by rw [HRR.out]; exact ⟨rfl, rfl, rfl⟩⟩
end
end Go.Proofs.YtlffgepnhhnadaaGreatDoor.Pl
