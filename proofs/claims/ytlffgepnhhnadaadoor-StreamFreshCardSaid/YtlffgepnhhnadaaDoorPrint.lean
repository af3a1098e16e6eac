/- wkb's printer, walked: what it writes is told by bytes. The output is within memory. -/
import Derived.Test.YtlffgepnhhnadaaDoorOctet
import Derived.Test.YtlffgepnhhnadaaDoorCheck
import Derived.Deep.AppendLies
import Derived.Deep.RegionWith
import Derived.Deep.RegionHeld3
import Derived.Deep.RegionLaw
namespace Go.Proofs.YtlffgepnhhnadaaDoor.Pl
open Go.RowKit

/-- the blocks that the printer in block pb does not write -/
def Apt (w : World) (pb b : Nat) : Prop := b < w.heap.size ∧ b ≠ pb ∧ ∀ v, w.cell? ⟨pb, 0, none⟩ = some v → v.ownBlock ≠ some b
/-- .. and they stand -/
def KeepP (pb : Nat) (w w' : World) : Prop := ∀ b, Apt w pb b → w'.heap[b]? = w.heap[b]? ∧ Apt w' pb b
theorem KeepP.refl (pb : Nat) (w : World) : KeepP pb w w := fun _ h => ⟨rfl, h⟩
theorem KeepP.trans {pb : Nat} {a b c : World} (h : KeepP pb a b) (k : KeepP pb b c) : KeepP pb a c := fun i hi => ⟨(k i (h i hi).2).1.trans (h i hi).1, (k i (h i hi).2).2⟩
theorem KeepP.of_below {pb : Nat} {w w' : World} (hp : pb < w.heap.size) (h : Below w.heap.size w w') : KeepP pb w w' := fun b ⟨h1, h2, h3⟩ =>
  ⟨h.block b h1, Nat.lt_of_lt_of_le h1 h.size, h2, fun v hv => h3 v (by rw [← h.cell (p := ⟨pb, 0, none⟩) hp]; exact hv)⟩
theorem KeepP.keeps {pb : Nat} {w w' : World} (h : KeepP pb w w') : Keeps (Apt w pb) w w' := fun b _ hb ho _ => (h b hb).1.trans ho
theorem Row.pr {pb : Nat} {w w' : World} {A : Option Addr} {cs : List Value} (h : Row (Apt w pb) w A cs) (k : KeepP pb w w') : Row (Apt w' pb) w' A cs := (h.keeps k.keeps).mono fun b _ hb => (k b hb).2
theorem Sl.pr {pb : Nat} {w w' : World} {v : Value} {n : Nat} {cs : List Value} (h : Sl (Apt w pb) w v n cs) (k : KeepP pb w w') : Sl (Apt w' pb) w' v n cs := (h.keeps k.keeps).mono fun b _ hb => (k b hb).2
theorem Pts.pr {pb : Nat} {w w' : World} {v : Value} {l : List Pt} (h : Pts (Apt w pb) w v l) (k : KeepP pb w w') : Pts (Apt w' pb) w' v l := (h.keeps k.keeps).mono fun b _ hb => (k b hb).2
theorem IsG.pr {pb : Nat} {w w' : World} {g : G} {cs : List Value} (h : IsG (Apt w pb) w g cs) (k : KeepP pb w w') : IsG (Apt w' pb) w' g cs := (h.keeps k.keeps).mono fun b _ hb => (k b hb).2
theorem IsGs.pr {pb : Nat} {w w' : World} {g : List G} {cs : List Value} (h : IsGs (Apt w pb) w g cs) (k : KeepP pb w w') : IsGs (Apt w' pb) w' g cs := (h.keeps k.keeps).mono fun b _ hb => (k b hb).2

/-- the printer's state, in block pb: what was written, the orders, how many have begun -/
structure IsPr (B : Nat) (w : World) (pb : Nat) (l : List UInt8) (os : List Bool) (n : Nat) : Prop where
  base : B ≤ pb
  mem : ∃ v A c, w.heap[pb]? = some (.cells #[v, .slice A os.length c, .int .i64 n] 122 (0, 0)) ∧ OwnB B w v l ∧ v.ownBlock ≠ some pb ∧ (os.length ≤ c ∧ os.length ≤ 140737488355328) ∧ Row (Apt w pb) w A (os.map Value.bool)

/-- a made slice of bytes with something in it -/
theorem OwnB.form {B : Nat} {w : World} {v : Value} {l : List UInt8} (h : OwnB B w v l) (hn : l ≠ []) : ∃ g cap, v = .slice (some ⟨g, 0, none⟩) l.length cap ∧ B ≤ g ∧ g < w.heap.size ∧ ∀ j u, (l.map bv)[j]? = some u → w.cell? ((⟨g, 0, none⟩ : Addr).add j) = some u := by
  have hc := fun {g : Nat} (hg : v.ownBlock = some g) => World.ownsRow.cells h hg
  have hlt := World.ownsRow.lt h
  rcases h.2 with ⟨_, hx⟩ | ⟨g, cap, cur, rfl, hb, hg, _⟩
  · simp at hx; exact (hn hx).elim
  · exact ⟨g, cap, rfl, hb, (hlt g rfl).2, hc rfl⟩

theorem OwnB.below {B : Nat} {w w1 w2 : World} {v : Value} {l : List UInt8} (h : OwnB B w v l) (hb : Below w1.heap.size w1 w2) (he : w1.heap = w.heap) : OwnB B w2 v l := by
  refine ⟨h.1, ?_⟩
  rcases h.2 with hn | ⟨g, cap, cur, rfl, hB, hg, rest⟩
  · exact .inl hn
  · refine .inr ⟨g, cap, cur, rfl, hB, ?_, rest⟩
    rw [hb.block g (by rw [he]; exact lt_of_heap hg), he]; exact hg

/-- append of a made slice to a made slice, as a step of a region -/
theorem step_append {w : World} {ops : Array Oper} {o : Oper} {a : Act} {K : Act → World → Prop} {Q : Exit → Act → World → Prop} {E : Prop} (hgd : o.guard = none) (s x : Operand)
    (ho : o.op = .call { callee := .builtin .append, args := #[s, x], argTypes := #[35, 35] }) {B B' : Nat} (v y : Value) {l m : List UInt8} (hs : a.eval s = v) (hx : a.eval x = y) (hv : OwnB B w v l) (hy : OwnB B' w y m) (hm : m ≠ []) (hl : l.length + m.length ≤ 140737488355328) (hB : B ≤ w.heap.size)
    (h : ∀ g cap w', OwnB B w' (.slice (some ⟨g, 0, none⟩) (l.length + m.length) cap) (l ++ m) → w.grownBy w' v.ownBlock → (v.ownBlock = some g ∨ g = w.heap.size) → g < w'.heap.size → K (a.put o.dst (.slice (some ⟨g, 0, none⟩) (l.length + m.length) cap)) w') :
    if Region.wanted o (yielded ops a.tmps) = true then Oper.wp Tryd.prog o a w K Q else E := by
  obtain ⟨i0, hi, hz0, hz1, hz2⟩ := info_parts Tryd.info5x
  obtain ⟨g2, c2, rfl, _, _, hcell⟩ := hy.form hm
  refine step_append_lies w hgd s x 35 ho B 5 i0 (.int .u8 0) 1 1 Tryd.underlying35 hi hz0 hz1 hz2 rfl (by decide) v l.length (l.map bv) hs hv ⟨g2, 0, none⟩ m.length c2 (m.map bv) hx (by simp) hcell (by simp [bv, Value.oneCell']) (List.length_pos_iff.2 hm) (by unfold maxLen; omega) (by omega) hB w.heap.size rfl ?_
  intro g cap w' h2 h3 h4 h5
  refine h g cap w' ?_ h3 h4 h5
  unfold OwnB
  rw [List.map_append, List.length_append]; exact h2

/-- .. in the list of a plain region -/
theorem list_append {w : World} {ops : Array Oper} {rest : List Oper} {o : Oper} {a : Act} {Q : Exit → Act → World → Prop} (hgd : o.guard = none) (s x : Operand)
    (ho : o.op = .call { callee := .builtin .append, args := #[s, x], argTypes := #[35, 35] }) {B B' : Nat} (v y : Value) {l m : List UInt8} (hs : a.eval s = v) (hx : a.eval x = y) (hv : OwnB B w v l) (hy : OwnB B' w y m) (hm : m ≠ []) (hl : l.length + m.length ≤ 140737488355328) (hB : B ≤ w.heap.size)
    (h : ∀ g cap w', OwnB B w' (.slice (some ⟨g, 0, none⟩) (l.length + m.length) cap) (l ++ m) → w.grownBy w' v.ownBlock → (v.ownBlock = some g ∨ g = w.heap.size) → g < w'.heap.size → wpList Tryd.prog ops Q rest (a.put o.dst (.slice (some ⟨g, 0, none⟩) (l.length + m.length) cap)) w') :
    wpList Tryd.prog ops Q (o :: rest) a w := by
  obtain ⟨i0, hi, hz0, hz1, hz2⟩ := info_parts Tryd.info5x
  obtain ⟨g2, c2, rfl, _, _, hcell⟩ := hy.form hm
  refine wpList_append_lies w hgd s x 35 ho B 5 i0 (.int .u8 0) 1 1 Tryd.underlying35 hi hz0 hz1 hz2 rfl (by decide) v l.length (l.map bv) hs hv ⟨g2, 0, none⟩ m.length c2 (m.map bv) hx (by simp) hcell (by simp [bv, Value.oneCell']) (List.length_pos_iff.2 hm) (by unfold maxLen; omega) (by omega) hB w.heap.size rfl ?_
  intro g cap w' h2 h3 h4 h5
  refine h g cap w' ?_ h3 h4 h5
  unfold OwnB
  rw [List.map_append, List.length_append]; exact h2

/-- a made slice of one byte -/
theorem one_byte (w : World) (x : UInt8) : OwnB w.heap.size (w.alloc (.cells #[bv x] 5)) (.slice (some ⟨w.heap.size, 0, none⟩) 1 1) [x] :=
  ownB_of (l := [x]) (n := 1) (World.alloc_heap_new w _) rfl rfl (Nat.le_refl _) (by simp)

/-- append of a made slice to a made slice -/
theorem append_run {B : Nat} {w : World} {v x : Value} {l m : List UInt8} {B' : Nat} (hv : OwnB B w v l) (hx : OwnB B' w x m) (hm : m ≠ []) (hl : l.length + m.length ≤ 140737488355328) (hB : B ≤ w.heap.size) :
    ∃ g cap w', (Builtin.append_ #[35, 35] 35 #[v, x]).run Tryd.prog w = .ok (.slice (some ⟨g, 0, none⟩) (l.length + m.length) cap) w' ∧
      OwnB B w' (.slice (some ⟨g, 0, none⟩) (l.length + m.length) cap) (l ++ m) ∧ w.grownBy w' v.ownBlock ∧ (v.ownBlock = some g ∨ g = w.heap.size) ∧ g < w'.heap.size := by
  obtain ⟨i0, hi, hz0, hz1, hz2⟩ := info_parts Tryd.info5x
  obtain ⟨g2, c2, rfl, _, _, hcell⟩ := hx.form hm
  obtain ⟨g, cap, w', h1, h2, h3, h4, h5⟩ := run_append_lies (P := Tryd.prog) w 35 35 B 5 i0 (.int .u8 0) 1 1 Tryd.underlying35 hi hz0 hz1 hz2 rfl (by decide) v l.length (l.map bv) hv ⟨g2, 0, none⟩ m.length c2 (m.map bv) (by simp) hcell (by simp [bv, Value.oneCell']) (List.length_pos_iff.2 hm) (by unfold maxLen; omega) (by omega) hB w.heap.size rfl
  refine ⟨g, cap, w', h1, ?_, h3, h4, h5⟩
  unfold OwnB
  rw [List.map_append, List.length_append]; exact h2

/-- the printer behind an append and the store of what it gave -/
theorem pr_grow {B : Nat} {w w2 w3 : World} {pb n len cap3 g3 c : Nat} {l m : List UInt8} {os : List Bool} {ov : Value} {A : Option Addr} (hbase : B ≤ pb) (hB : B ≤ w.heap.size)
    (hblk : w.heap[pb]? = some (.cells #[ov, .slice A os.length c, .int .i64 n] 122 (0, 0))) (hne : ov.ownBlock ≠ some pb) (hown : OwnB B w ov l) (hoc : os.length ≤ c ∧ os.length ≤ 140737488355328) (hrow : Row (Apt w pb) w A (os.map Value.bool))
    (h2 : Below w.heap.size w w2) (ho3 : OwnB B w3 (.slice (some ⟨g3, 0, none⟩) len cap3) m) (hgr : w2.grownBy w3 ov.ownBlock) (hg3 : ov.ownBlock = some g3 ∨ g3 = w2.heap.size) :
    IsPr B (w3.setCell ⟨pb, 0, none⟩ (.slice (some ⟨g3, 0, none⟩) len cap3)) pb m os n ∧ Below B w (w3.setCell ⟨pb, 0, none⟩ (.slice (some ⟨g3, 0, none⟩) len cap3)) ∧ KeepP pb w (w3.setCell ⟨pb, 0, none⟩ (.slice (some ⟨g3, 0, none⟩) len cap3)) := by
  have hlt := lt_of_heap hblk
  have hlt2 : pb < w2.heap.size := Nat.lt_of_lt_of_le hlt h2.size
  have hg : g3 ≠ pb := by
    rintro rfl
    rcases hg3 with h | h
    · exact hne h
    · omega
  have hb3 : w3.heap[pb]? = some (.cells #[ov, .slice A os.length c, .int .i64 n] 122 (0, 0)) := by
    rw [hgr.block pb hlt2 (fun e => hne e.symm), h2.block pb hlt]; exact hblk
  have hBl : Below B w w3 := by
    refine (h2.mono hB).grown hgr (Nat.le_trans hB h2.size) (fun k e => (World.ownsRow.lt hown k e).1)
  have hblk' : (w3.setCell ⟨pb, 0, none⟩ (.slice (some ⟨g3, 0, none⟩) len cap3)).heap[pb]? = some (.cells #[.slice (some ⟨g3, 0, none⟩) len cap3, .slice A os.length c, .int .i64 n] 122 (0, 0)) := by
    have := heap_store (cs := [ov, .slice A os.length c, .int .i64 n]) hb3 (j := 0) (.slice (some ⟨g3, 0, none⟩) len cap3)
    simpa using this
  have hK : KeepP pb w (w3.setCell ⟨pb, 0, none⟩ (.slice (some ⟨g3, 0, none⟩) len cap3)) := by
    intro b ⟨hb1, hb2, hb3⟩
    have hno := hb3 ov (by simp [World.cell?, hblk])
    refine ⟨?_, ?_, hb2, fun v hv => ?_⟩
    · rw [Below.heap_setCell w3 _ _ b (by show b ≠ pb; exact hb2), hgr.block b (Nat.lt_of_lt_of_le hb1 h2.size) (fun e => hno e.symm), h2.block b hb1]
    · have := hgr.size; have := h2.size; simp [World.setCell]; omega
    · simp [World.cell?, hblk'] at hv
      subst hv
      rcases hg3 with h | h
      · rw [h] at hno; simpa [Value.ownBlock] using hno
      · have := h2.size
        simp only [Value.ownBlock, ne_eq, Option.some.injEq]
        omega
  exact ⟨⟨hbase, .slice (some ⟨g3, 0, none⟩) len cap3, A, c, hblk', World.ownsRow.kept ho3 (grownBy_setCell' w3 pb _) (.inr (by simpa [Value.ownBlock] using hg)), by simpa [Value.ownBlock] using hg, hoc, hrow.pr hK⟩, hBl.setCell hbase _, hK⟩

set_option maxRecDepth 100000 in
set_option maxHeartbeats 1000000 in
theorem word_any {B pb n : Nat} {l : List UInt8} {os : List Bool} (v : Int) (little : Bool) (w : World) (hp : IsPr B w pb l os n) (hl : l.length ≤ 70368744177664) (hB : B ≤ w.heap.size) :
    Calls Tryd.prog 88 #[.pointer (some ⟨pb, 0, none⟩), .int .i64 v, .bool little] w fun e w' => (∃ r, e = .returned r) ∧ IsPr B w' pb (l ++ encB 4 (v % 4294967296).toNat little) os n ∧ Below B w w' ∧ KeepP pb w w' := by
  obtain ⟨hbase, ov, A, c, hblk, hown, hne, hoc, hrow⟩ := hp
  have hput := fun W => Put32_any (ok := fun _ => True) (sv := .slice none 0 0) (l := []) (v % 4294967296).toNat little W (Sl.nil _ _) (by simp)
  have hp0 : w.cell? ⟨pb, 0, none⟩ = some ov := by simp [World.cell?, hblk]
  have hf0 : w.frozen? ⟨pb, 0, none⟩ = false := by simp [World.frozen?, hblk]
  have hlt := lt_of_heap hblk
  have HP := Lib.hid hput
  have HO := Lib.hid hown
  have HB := Lib.hid hblk
  clear hput hown hblk
  have hw : IntKind.u32.wrap v = ((v % 4294967296).toNat : Int) := by rw [IntKind.wrap_u32]; omega
  generalize (v % 4294967296).toNat = u at hw HP ⊢
  go_enter Tryd.func88, Tryd.ntmps88
  go_wp2
  go_region_law (first
      | (refine step_append rfl (.tmp 10) (.tmp 14) rfl ov r (by rfl) (by rfl) (HR.out.1) (HR.out.2.1) (by simp [encB]) (by simp [encB_length]; omega) (HR.out.2.2.1) ?_
         intro g3 cap3 w3 ho3 hgr3 hg3 hlt3
         have hq3 : w3.cell? ⟨pb, 0, none⟩ = some ov := hgr3.cell hq1 (fun e => hne e.symm)
         have hf3 : w3.frozen? ⟨pb, 0, none⟩ = false := by rw [World.frozen?_of_block (w := w2) (hgr3.block pb (lt_of_cell hq1) (fun e => hne e.symm))]; exact HR.out.2.2.2
         have HR3 := Lib.hid (And.intro ho3 (And.intro hgr3 (And.intro hg3 hlt3)))
         clear ho3 hgr3 hg3 hlt3)
      | (go_simp
         go_at_call 24
         refine (HP.out _).mono ?_
         rintro e w2 ⟨r, rfl, h1, h2⟩
         have hq1 : w2.cell? ⟨pb, 0, none⟩ = some ov := (h2.cell (p := ⟨pb, 0, none⟩) (by simpa using hlt)).trans hp0
         have HR := Lib.hid (And.intro (HO.out.below h2 (by rfl)) (And.intro h1 (And.intro (show B ≤ w2.heap.size from by have := h2.size; simp at this; omega) (show w2.frozen? ⟨pb, 0, none⟩ = false from by rw [h2.frozen (p := ⟨pb, 0, none⟩) (by simpa using hlt)]; exact hf0))))
         have HB2 : Hid (Below w.heap.size w w2) := Lib.hid ((Below.refl _ w).drew.trans (by simpa using h2))
         clear h1 h2))
  all_goals
    have hG := pr_grow hbase hB HB.out hne HO.out hoc hrow HB2.out HR3.out.1 HR3.out.2.1 HR3.out.2.2.1
    go_end0
    exact ⟨⟨_, rfl⟩, hG⟩

/-- points as bytes -/
def encP (little : Bool) (p : Pt) : List UInt8 := encB 8 p.1 little ++ encB 8 p.2 little
def encPs (little : Bool) (l : List Pt) : List UInt8 := l.flatMap (encP little)

theorem cell_setFar (w : World) {a b : Addr} (v : Value) (h : a.block ≠ b.block) : (w.setCell a v).cell? b = w.cell? b := World.cell?_setCell_far w a b v h
theorem below_drew {w w2 : World} {k : Nat} (h : Below (w.drewN k).heap.size (w.drewN k) w2) : Below w.heap.size w w2 := ⟨h.os, h.tape, h.output, h.size, h.block⟩
theorem below_drew1 {w w2 : World} (h : Below w.drew.heap.size w.drew w2) : Below w.heap.size w w2 := ⟨h.os, h.tape, h.output, h.size, h.block⟩
theorem encP_length (little : Bool) (p : Pt) : (encP little p).length = 16 := by simp [encP, encB_length]
theorem encPs_length (little : Bool) (l : List Pt) : (encPs little l).length = 16 * l.length := by
  induction l with
  | nil => rfl
  | cons p l ih => have h : encPs little (p :: l) = encP little p ++ encPs little l := rfl
                   rw [h, List.length_append, encP_length, ih, List.length_cons]; omega
theorem points_next (little : Bool) {ps : List Pt} {k : Nat} {p : Pt} (h : ps[k]? = some p) : encPs little (ps.take (k + 1)) = encPs little (ps.take k) ++ encP little p := by
  rw [List.take_add_one, h]; simp [encPs]

set_option maxRecDepth 100000 in
set_option maxHeartbeats 2000000 in
/-- one round of the printer's points: a point is written -/
theorem points_any {B pb n : Nat} {l : List UInt8} {os : List Bool} {pv : Value} {ps : List Pt} (little : Bool) (w : World) (hp : IsPr B w pb l os n) (hps : Pts (Apt w pb) w pv ps) (hl : l.length + 16 * ps.length ≤ 70368744177664) (hB : B ≤ w.heap.size) :
    Calls Tryd.prog 89 #[.pointer (some ⟨pb, 0, none⟩), pv, .bool little] w fun e w' => (∃ r, e = .returned r) ∧ IsPr B w' pb (l ++ encPs little ps) os n ∧ Below B w w' ∧ KeepP pb w w' := by
  obtain ⟨hpo, A, c, rfl, hc, _, hr⟩ := hps
  have HR := Lib.hid hr
  have HP := Lib.hid hp
  have HPO := Lib.hid hpo
  clear hr hp hpo
  go_enter Tryd.func89, Tryd.ntmps89
  go_wp2
  go_loopw [10] (fun i wr => ∃ k : Nat, k ≤ ps.length ∧ i = .int .i64 k ∧ Hid (IsPr B wr pb (l ++ encPs little (ps.take k)) os n) ∧ Below B w wr ∧ Hid (KeepP pb w wr)) (fun i _ => ps.length - (intOf i).toNat)
  case atStart => exact ⟨0, Nat.zero_le _, rfl, by simpa [Hid, encPs] using HP.out, Below.refl _ _, KeepP.refl _ _⟩
  case round =>
    obtain ⟨k, hk, rfl, HPr, hbl, HK⟩ := hrel
    by_cases hlt : k < ps.length
    · obtain ⟨p, hpk⟩ : ∃ p, ps[k]? = some p := ⟨_, List.getElem?_eq_getElem hlt⟩
      have hpo := HPO.out p (List.mem_of_getElem? hpk)
      have hr2 := HR.out.pr HK.out
      obtain ⟨b, o, rfl, _, _, hcell⟩ := hr2.at (by intro h; have h2 := ptCells_length ps; rw [h] at h2; simp at h2; omega)
      obtain ⟨c1, c2⟩ := pt_cells hcell k p hpk
      clear hr2 hcell
      obtain ⟨hbase, ov, A2, c2', hblk, hown, hne, hoc, hrow⟩ := HPr.out
      have hll : (l ++ encPs little (ps.take k)).length = l.length + 16 * k := by rw [List.length_append, encPs_length, List.length_take_of_le hk]
      have hBr : B ≤ wr.heap.size := Nat.le_trans hB hbl.size
      have hPx := fun W => Put64_any (ok := fun _ => True) (sv := .slice none 0 0) (l := []) p.1 little W (Sl.nil _ _) (by simp)
      have hPy := fun W r bs (h : OwnB bs W r ([] ++ encB 8 p.1 little)) => Put64_any (ok := fun b => bs ≤ b) p.2 little W (h.bytes (by simp [encB_length])) (by simp [encB_length])
      have hpn := points_next little hpk
      have hee : [] ++ encB 8 p.1 little ++ encB 8 p.2 little = encP little p := by simp [encP]
      rw [hee] at hPy
      have hel := encP_length little p
      have hlp : l ++ encPs little (ps.take (k + 1)) = (l ++ encPs little (ps.take k)) ++ encP little p := by rw [hpn, List.append_assoc]
      clear HPr hpn hee
      generalize encP little p = ep at hPy hel hlp
      generalize l ++ encPs little (ps.take k) = l1 at hown hll hlp
      go_wp2
      obtain ⟨w1, hw1⟩ : ∃ w1, w1 = wr.alloc (Obj.cells #[Value.int IntKind.u64 ↑p.fst, Value.int IntKind.u64 ↑p.snd] 71) := ⟨_, rfl⟩
      rw [← hw1]
      have hb1 : Below wr.heap.size wr w1 := by subst hw1; exact (Below.refl _ wr).alloc (Nat.le_refl _) _
      have hx1 : w1.cell? ⟨wr.heap.size, 0, none⟩ = some (.int .u64 p.1) := by subst hw1; rw [World.cell?_alloc_mark]; rfl
      have hx2 : w1.cell? ⟨wr.heap.size, 1, none⟩ = some (.int .u64 p.2) := by subst hw1; rw [World.cell?_alloc_mark]; rfl
      have hlt1 : wr.heap.size < w1.heap.size := lt_of_cell hx1
      clear hw1
      have hlb := lt_of_heap hblk
      have hp0 : w1.cell? ⟨pb, 0, none⟩ = some ov := (hb1.cell (p := ⟨pb, 0, none⟩) hlb).trans (by simp [World.cell?, hblk])
      have hf0 : w1.frozen? ⟨pb, 0, none⟩ = false := by rw [hb1.frozen (p := ⟨pb, 0, none⟩) hlb]; simp [World.frozen?, hblk]
      have hown1 : OwnB B w1 ov l1 := hown.below hb1 rfl
      have HX := Lib.hid hPx
      have HY := Lib.hid hPy
      have HB := Lib.hid hblk
      have HO := Lib.hid hown1
      have HO0 := Lib.hid hown
      have HN := Lib.hid hlp
      have HE := Lib.hid hel
      have HL := Lib.hid hll
      have HW := Lib.hid hrow
      clear hPx hPy hblk hown hown1 hlp hel hrow hll c1 c2 hpk hpo
      go_region_law (first
        | (refine step_append rfl (.tmp 18) (.tmp 26) rfl ov r2 (by rfl) (by rfl) (HR2.out.1) (HR2.out.2.1) (by intro h; have := HE.out; rw [h] at this; cases this) (by rw [HL.out, HE.out]; omega) (HR2.out.2.2.1) ?_
           intro g3 cap3 w4 ho3 hgr3 hg3 hlt3
           have hq5 : w4.cell? ⟨pb, 0, none⟩ = some ov := hgr3.cell hq3 (fun e => hne e.symm)
           have hf3 : w4.frozen? ⟨pb, 0, none⟩ = false := by rw [World.frozen?_of_block (w := w3) (hgr3.block pb (lt_of_cell hq3) (fun e => hne e.symm))]; exact HR2.out.2.2.2
           have HR3 := Lib.hid (And.intro ho3 (And.intro hgr3 (And.intro hg3 hlt3)))
           clear ho3 hgr3 hg3 hlt3)
        | (go_simp
           go_at_call 107
           refine (HY.out _ _ _ HR.out.2.1).mono ?_
           rintro e w3 ⟨r2, rfl, h1, h2⟩
           replace h2 : Below w2.heap.size w2 w3 := by first | exact h2 | exact below_drew h2 | exact below_drew1 h2
           have hq3 : w3.cell? ⟨pb, 0, none⟩ = some ov := (h2.cell (p := ⟨pb, 0, none⟩) (lt_of_cell hq1)).trans hq1
           have HR2 := Lib.hid (And.intro (HR.out.1.below h2 (by rfl)) (And.intro h1 (And.intro (show B ≤ w3.heap.size from by have := h2.size; have := HR.out.2.2.1.size; omega) (show w3.frozen? ⟨pb, 0, none⟩ = false from by rw [h2.frozen (p := ⟨pb, 0, none⟩) (lt_of_cell hq1)]; exact HR.out.2.2.2))))
           have HB2 : Hid (Below wr.heap.size wr w3) := Lib.hid (hb1.trans ((HR.out.2.2.1.mono (Nat.le_of_lt hlt1)).trans (h2.mono (Nat.le_trans (Nat.le_of_lt hlt1) HR.out.2.2.1.size))))
           clear h1 h2)
        | (go_simp
           go_at_call 107
           refine (HX.out _).mono ?_
           rintro e w2 ⟨r, rfl, h1, h2⟩
           replace h2 : Below w1.heap.size w1 w2 := by first | exact h2 | exact below_drew h2 | exact below_drew1 h2
           have hq1 : w2.cell? ⟨pb, 0, none⟩ = some ov := (h2.cell (p := ⟨pb, 0, none⟩) (lt_of_cell hp0)).trans hp0
           have hy2 : w2.cell? ⟨wr.heap.size, 1, none⟩ = some (.int .u64 p.2) := (h2.cell (p := ⟨wr.heap.size, 1, none⟩) hlt1).trans hx2
           have HR := Lib.hid (And.intro (HO.out.below h2 (by rfl)) (And.intro h1 (And.intro h2 (show w2.frozen? ⟨pb, 0, none⟩ = false from by rw [h2.frozen (p := ⟨pb, 0, none⟩) (lt_of_cell hp0)]; exact hf0))))
           clear h1 h2))
      all_goals
        have hG := pr_grow hbase hBr HB.out hne HO0.out hoc HW.out HB2.out HR3.out.1 HR3.out.2.1 HR3.out.2.2.1
        go_wp2
        go_roundw
        · exact ⟨k + 1, hlt, by simp, Lib.hid (by rw [HN.out]; exact hG.1), hbl.trans hG.2.1, Lib.hid (HK.out.trans hG.2.2)⟩
        · simp [intOf]; omega
    · go_wp2
      go_end0
      refine ⟨⟨_, rfl⟩, ?_, hbl, HK.out⟩
      have h := HPr.out
      rwa [List.take_of_length_le (by omega)] at h
end Go.Proofs.YtlffgepnhhnadaaDoor.Pl
