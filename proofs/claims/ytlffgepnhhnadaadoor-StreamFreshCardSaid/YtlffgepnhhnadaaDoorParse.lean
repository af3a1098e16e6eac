/- wkb's parser, walked: the small readers. -/
import Derived.Test.YtlffgepnhhnadaaDoorSpec
namespace Go.Proofs.YtlffgepnhhnadaaDoor.Pl
open Go.RowKit

/-- the blocks that the parser in pb, reading in rb, does not write -/
def AptR (w : World) (pb rb b : Nat) : Prop := b < w.heap.size ∧ b ≠ rb ∧ b ≠ pb ∧ ∀ v, w.cell? ⟨pb, 2, none⟩ = some v → v.ownBlock ≠ some b
def KeepR (pb rb : Nat) (w w' : World) : Prop := ∀ b, AptR w pb rb b → w'.heap[b]? = w.heap[b]? ∧ AptR w' pb rb b
theorem KeepR.refl (pb rb : Nat) (w : World) : KeepR pb rb w w := fun _ h => ⟨rfl, h⟩
theorem KeepR.trans {pb rb : Nat} {a b c : World} (h : KeepR pb rb a b) (k : KeepR pb rb b c) : KeepR pb rb a c := fun i hi => ⟨(k i (h i hi).2).1.trans (h i hi).1, (k i (h i hi).2).2⟩
theorem KeepR.of_below {pb rb : Nat} {w w' : World} (hp : pb < w.heap.size) (h : Below w.heap.size w w') : KeepR pb rb w w' := fun b ⟨h1, h2, h3, h4⟩ =>
  ⟨h.block b h1, Nat.lt_of_lt_of_le h1 h.size, h2, h3, fun v hv => h4 v (by rw [← h.cell (p := ⟨pb, 2, none⟩) hp]; exact hv)⟩
theorem KeepR.keeps {pb rb : Nat} {w w' : World} (h : KeepR pb rb w w') : Keeps (AptR w pb rb) w w' := fun b _ hb ho _ => (h b hb).1.trans ho
theorem Sl.par {pb rb : Nat} {w w' : World} {v : Value} {n : Nat} {cs : List Value} (h : Sl (AptR w pb rb) w v n cs) (k : KeepR pb rb w w') : Sl (AptR w' pb rb) w' v n cs := (h.keeps k.keeps).mono fun b _ hb => (k b hb).2
theorem Pts.par {pb rb : Nat} {w w' : World} {v : Value} {l : List Pt} (h : Pts (AptR w pb rb) w v l) (k : KeepR pb rb w w') : Pts (AptR w' pb rb) w' v l := (h.keeps k.keeps).mono fun b _ hb => (k b hb).2
theorem IsG.par {pb rb : Nat} {w w' : World} {g : G} {cs : List Value} (h : IsG (AptR w pb rb) w g cs) (k : KeepR pb rb w w') : IsG (AptR w' pb rb) w' g cs := (h.keeps k.keeps).mono fun b _ hb => (k b hb).2

/-- the blocks made since w that the parser does not write -/
def NewR (w w' : World) (pb rb b : Nat) : Prop := AptR w' pb rb b ∧ w.heap.size ≤ b
theorem NewR.of {w0 w w' : World} {pb rb b : Nat} (h : NewR w w' pb rb b) (hs : w0.heap.size ≤ w.heap.size) : NewR w0 w' pb rb b := ⟨h.1, Nat.le_trans hs h.2⟩

/-- made Booleans -/
def OwnO (B : Nat) (w : World) (v : Value) (os : List Bool) : Prop := w.ownsRow B 4 1 v os.length (os.map .bool)

/-- the parser's state -/
structure IsPar (B : Nat) (w : World) (pb rb : Nat) (v : Value) (l : List UInt8) (at_ : Nat) (deep : Int) (os : List Bool) : Prop where
  basep : B ≤ pb
  baser : B ≤ rb
  ne : pb ≠ rb
  rd : IsRd w rb v l at_
  bytes : Bytes (AptR w pb rb) w v l
  mem : ∃ ov, w.heap[pb]? = some (.cells #[.pointer (some ⟨rb, 0, none⟩), .int .i64 deep, ov] 205 (0, 0)) ∧ OwnO B w ov os ∧ ov.ownBlock ≠ some pb ∧ ov.ownBlock ≠ some rb

section
variable {B pb rb at_ : Nat} {w : World} {v : Value} {l : List UInt8} {deep : Int} {os : List Bool}
theorem IsPar.lt (h : IsPar B w pb rb v l at_ deep os) : pb < w.heap.size := by obtain ⟨ov, h1, _⟩ := h.mem; exact lt_of_heap h1
theorem IsPar.c0 (h : IsPar B w pb rb v l at_ deep os) : w.cell? ⟨pb, 0, none⟩ = some (.pointer (some ⟨rb, 0, none⟩)) := by obtain ⟨ov, h1, _⟩ := h.mem; simp [World.cell?, h1]
theorem IsPar.c1 (h : IsPar B w pb rb v l at_ deep os) : w.cell? ⟨pb, 1, none⟩ = some (.int .i64 deep) := by obtain ⟨ov, h1, _⟩ := h.mem; simp [World.cell?, h1]
theorem IsPar.drewN (h : IsPar B w pb rb v l at_ deep os) (n : Nat) : IsPar B (w.drewN n) pb rb v l at_ deep os :=
  ⟨h.basep, h.baser, h.ne, ⟨h.rd.blk, h.rd.bytes, h.rd.le⟩, h.bytes, h.mem⟩
theorem KeepR.drewN {w' : World} (h : KeepR pb rb w w') (n : Nat) : KeepR pb rb w (w'.drewN n) := h
/-- behind the making of something -/
theorem IsPar.below {w' : World} (h : IsPar B w pb rb v l at_ deep os) (hb : Below w.heap.size w w') : IsPar B w' pb rb v l at_ deep os := by
  have hlt := h.lt
  have hk : KeepR pb rb w w' := .of_below hlt hb
  refine ⟨h.basep, h.baser, h.ne, ⟨(hb.block _ (lt_of_heap h.rd.blk)).trans h.rd.blk, ?_, h.rd.le⟩, h.bytes.par hk, ?_⟩
  · exact ((h.bytes.par hk).mono fun b _ hb => ⟨hb.2.1, hb.1⟩)
  · obtain ⟨ov, h1, h2, h3, h4⟩ := h.mem
    exact ⟨ov, (hb.block _ hlt).trans h1, World.ownsRow.kept h2 (show w.grownBy w' none from ⟨hb.os, hb.tape, hb.output, hb.size, fun k hk _ => hb.block k hk⟩) (by cases ov.ownBlock with | none => exact .inl rfl | some x => exact .inr (by simp)), h3, h4⟩
/-- behind a step of the reader -/
theorem IsPar.step {w' : World} {a : Nat} (h : IsPar B w pb rb v l at_ deep os) (hr : IsRd w' rb v l a) (hg : w.grownBy w' (some rb)) : IsPar B w' pb rb v l a deep os ∧ KeepR pb rb w w' ∧ Below B w w' := by
  have hlt := h.lt
  obtain ⟨ov, h1, h2, h3, h4⟩ := h.mem
  have hpb : w'.heap[pb]? = some (.cells #[.pointer (some ⟨rb, 0, none⟩), .int .i64 deep, ov] 205 (0, 0)) := (hg.block pb hlt (fun e => h.ne (Option.some.inj e))).trans h1
  have hk : KeepR pb rb w w' := fun b ⟨g1, g2, g3, g4⟩ => ⟨hg.block b g1 (fun e => g2 (Option.some.inj e)), Nat.lt_of_lt_of_le g1 hg.size, g2, g3, fun u hu => by
    simp [World.cell?, hpb] at hu; subst hu; exact g4 ov (by simp [World.cell?, h1])⟩
  refine ⟨⟨h.basep, h.baser, h.ne, hr, h.bytes.par hk, ov, hpb, World.ownsRow.kept h2 hg (.inr h4), h3, h4⟩, hk, hg.os, hg.tape, hg.output, hg.size, fun k hk => ?_⟩
  by_cases hks : k < w.heap.size
  · exact hg.block k hks (fun e => by have := Option.some.inj e; have := h.baser; omega)
  · have := lt_of_heap h.rd.blk; have := h.baser; omega
end

/-- the parser gives up -/
abbrev early (e : PErr) : Ending := .panicked [{ v := .iface 199 (.agg #[.int .i64 e.1, .int .i64 e.2]), recovered := false }]
/-- what a reader of the parser's gives -/
def PPost {α : Type} (B : Nat) (w : World) (pb rb : Nat) (v : Value) (l : List UInt8) (deep : Int) (val : α → Value → World → Prop) (r : Except PErr (α × Nat × List Bool)) (e : Ending) (w' : World) : Prop :=
  Below B w w' ∧ match r with
    | .ok (x, a, os) => ∃ u, e = .returned u ∧ val x u w' ∧ IsPar B w' pb rb v l a deep os ∧ KeepR pb rb w w'
    | .error er => e = early er

theorem need_any {B pb rb at_ : Nat} {v : Value} {l : List UInt8} {deep : Int} {os : List Bool} (n : Nat) (w : World) (hp : IsPar B w pb rb v l at_ deep os) :
    Calls Tryd.prog 123 #[.pointer (some ⟨pb, 0, none⟩), .int .i64 n] w
      (PPost B w pb rb v l deep (fun _ _ _ => True) (if l.length - at_ < n then .error ((at_ : Int), (160 : Int)) else .ok ((), at_, os))) := by
  have c0 := hp.c0
  have HL := Lib.hid (fun w' (h : IsRd w' rb v l at_) => Left_any w' h)
  have HA := Lib.hid (fun w' (h : IsRd w' rb v l at_) => At_any w' h)
  have HP := Lib.hid hp
  have hd : l.length - at_ ≤ 140737488355328 := by obtain ⟨A, c, _, _, h, _⟩ := hp.bytes; omega
  generalize hdd : l.length - at_ = d at HL hd ⊢
  clear hp
  by_cases hn : d < n
  · rw [if_pos hn]
    go_enter Tryd.func123, Tryd.ntmps123
    go_wp2_with fail
    refine (HL.out w HP.out.rd).mono ?_
    rintro e w' ⟨rfl, k, rfl⟩
    go_wp2_with fail
    refine (HA.out _ (HP.out.drewN k).rd).mono ?_
    rintro e w' ⟨rfl, rfl⟩
    go_wp2
    exact ⟨rfl, below_drewN (Below.refl _ _) _, rfl⟩
  · rw [if_neg hn]
    go_enter Tryd.func123, Tryd.ntmps123
    go_wp2_with fail
    refine (HL.out w HP.out.rd).mono ?_
    rintro e w' ⟨rfl, k, rfl⟩
    go_wp2
    go_end0
    exact ⟨below_drewN (Below.refl _ _) _, _, rfl, trivial, HP.out.drewN k, (KeepR.refl _ _ _).drewN _⟩

theorem member_any (home kind : Int) (w : World) (hh : 0 ≤ home ∧ home ≤ 7) : Calls Tryd.prog 126 #[.int .i64 home, .int .i64 kind] w fun e w' => e = .returned (.bool (memberB home kind)) ∧ w = w' := by
  have hwr : IntKind.i64.wrap (home - 3) = home - 3 := by rw [IntKind.wrap_i64]; omega
  go_enter Tryd.func126, Tryd.ntmps126
  go_wp2
  all_goals
    go_ret
    refine ⟨ret_bool ?_, rfl⟩
    first | rfl | (simp only [memberB]; simp [*]; done) | (subst_vars; simp [memberB]; done)

set_option maxRecDepth 100000 in
theorem number_any {B pb rb at_ : Nat} {v : Value} {l : List UInt8} {deep : Int} {os : List Bool} (little : Bool) (w : World) (hp : IsPar B w pb rb v l at_ deep os) (hl : at_ + 8 ≤ l.length) :
    Calls Tryd.prog 140 #[.pointer (some ⟨pb, 0, none⟩), .bool little] w
      (PPost B w pb rb v l deep (fun x u _ => u = .int .u64 (x : Nat)) ((numR l little at_).map fun x => (x, at_ + 8, os))) := by
  have c0 := hp.c0
  have hwl := wd_lt l at_ 8 little
  have HW := Lib.hid (Word64_any little w hp.rd hl)
  have HA := Lib.hid (At_any w hp.rd)
  have HP := Lib.hid hp
  unfold numR
  change Hid (Calls _ _ _ _ fun e w' => e = .returned (.int .u64 (wd l at_ 8 little)) ∧ _) at HW
  generalize wd l at_ 8 little = x at hwl HW ⊢
  have HC := Lib.hid (fun W => cls_any x W (by simpa using hwl))
  clear hp hwl
  by_cases hx : 3 ≤ cls x
  · rw [if_pos hx]
    go_enter Tryd.func140, Tryd.ntmps140
    go_wp2_with fail
    refine HA.out.mono ?_
    rintro e w' ⟨rfl, rfl⟩
    go_wp2_with fail
    refine HW.out.mono ?_
    rintro e w' ⟨rfl, hr, hg⟩
    have hst := HP.out.step hr hg
    have HS := Lib.hid hst
    clear hst hr hg
    go_wp2_with fail
    refine (HC.out _).mono ?_
    rintro e w'' ⟨rfl, rfl⟩
    go_wp2
    exact ⟨rfl, HS.out.2.2, rfl⟩
  · rw [if_neg hx]
    go_enter Tryd.func140, Tryd.ntmps140
    go_wp2_with fail
    refine HA.out.mono ?_
    rintro e w' ⟨rfl, rfl⟩
    go_wp2_with fail
    refine HW.out.mono ?_
    rintro e w' ⟨rfl, hr, hg⟩
    have hst := HP.out.step hr hg
    have HS := Lib.hid hst
    clear hst hr hg
    go_wp2_with fail
    refine (HC.out _).mono ?_
    rintro e w'' ⟨rfl, rfl⟩
    go_wp2
    go_ret
    exact ⟨HS.out.2.2, _, rfl, rfl, HS.out.1, HS.out.2.1⟩

set_option maxRecDepth 100000 in
theorem count_any {B pb rb at_ : Nat} {v : Value} {l : List UInt8} {deep : Int} {os : List Bool} (little : Bool) (least : Nat) (hle : least ≤ 30) (w : World) (hp : IsPar B w pb rb v l at_ deep os) :
    Calls Tryd.prog 129 #[.pointer (some ⟨pb, 0, none⟩), .bool little, .int .i64 least] w
      (PPost B w pb rb v l deep (fun x u _ => u = .int .i64 (x : Nat)) ((countR l little least at_).map fun x => (x.1, x.2, os))) := by
  have c0 := hp.c0
  have HA := Lib.hid (At_any w hp.rd)
  have HN := Lib.hid (need_any 4 w hp)
  have HP := Lib.hid hp
  unfold countR
  by_cases h4 : l.length - at_ < 4
  · rw [if_pos h4]
    have HH := Lib.hid h4
    clear hp h4
    go_enter Tryd.func129, Tryd.ntmps129
    go_wp2_with fail
    refine HA.out.mono ?_
    rintro e w' ⟨rfl, rfl⟩
    go_wp2_with fail
    refine HN.out.mono ?_
    rw [if_pos HH.out]
    rintro e w' ⟨hb, rfl⟩
    have HB := Lib.hid hb
    clear hb
    go_wp2
    exact ⟨rfl, HB.out, rfl⟩
  · rw [if_neg h4]
    have hl4 : at_ + 4 ≤ l.length := by omega
    have hd : l.length ≤ 140737488355328 := by obtain ⟨A, c, _, _, h, _⟩ := hp.bytes; omega
    have hwl := wd_lt l at_ 4 little
    have HW := Lib.hid (fun w' (h : IsRd w' rb v l at_) => Word32_any little w' h hl4)
    change Hid (∀ w' (h : IsRd w' rb v l at_), Calls _ _ _ _ fun e w'' => e = .returned (.int .u32 (wd l at_ 4 little)) ∧ _) at HW
    have HL := Lib.hid (fun w' (h : IsRd w' rb v l (at_ + 4)) => Left_any w' h)
    generalize wd l at_ 4 little = x at hwl HW ⊢
    have hxl : x * least ≤ 4294967296 * 30 := Nat.mul_le_mul (by omega) hle
    have hw1 : IntKind.i64.wrap (x : Int) = x := by rw [IntKind.wrap_i64]; omega
    have hw2 : IntKind.i64.wrap ((x : Int) * least) = ((x * least : Nat) : Int) := by rw [IntKind.wrap_i64, ← Int.natCast_mul]; omega
    have HH := Lib.hid h4
    clear hp h4
    generalize hdl : l.length - (at_ + 4) = d at HL ⊢
    generalize hxy : x * least = y at hxl hw2 ⊢
    have HQ : Hid (l.length - at_ < 4 → False) := HH
    go_enter Tryd.func129, Tryd.ntmps129
    go_wp2_with fail
    refine HA.out.mono ?_
    rintro e w' ⟨rfl, rfl⟩
    go_wp2_with fail
    refine HN.out.mono ?_
    rw [if_neg HH.out]
    rintro e w1 ⟨hb1, u1, rfl, _, hp1, hk1⟩
    have c0 := hp1.c0
    have HP1 := Lib.hid hp1
    clear hp1
    go_wp2_with fail
    refine (HW.out _ HP1.out.rd).mono ?_
    rintro e w2 ⟨rfl, hr, hg⟩
    have HS := Lib.hid (HP1.out.step hr hg)
    have c0 := HS.out.1.c0
    have HB := Lib.hid (hb1.trans HS.out.2.2)
    have HK := Lib.hid (hk1.trans HS.out.2.1)
    clear hr hg hb1 hk1
    go_wp2_with fail
    refine (HL.out _ HS.out.1.rd).mono ?_
    rintro e w' ⟨rfl, k, rfl⟩
    by_cases hy : d < y
    · go_wp2
      exact ⟨rfl, below_drewN HB.out _, rfl⟩
    · go_wp2
      go_ret
      exact ⟨below_drewN HB.out _, _, rfl, rfl, HS.out.1.drewN _, HK.out.drewN _⟩
end Go.Proofs.YtlffgepnhhnadaaDoor.Pl
