/- octet's put, walked. The list is no longer than memory bears. -/
import Derived.Test.YtlffgepnhhnadaaDoorTree
import Derived.Laws.OwnMore
import Derived.Laws.CopyOwn
import Derived.Deep.AppendSrc
namespace Go.Proofs.YtlffgepnhhnadaaDoor.Pl
open Go.RowKit

/-- a number's bytes -/
def encB (size : Nat) (v : Nat) (little : Bool) : List UInt8 := (List.range size).map fun i => UInt8.ofNat (v / 2 ^ (8 * (if little then i else size - 1 - i)))
/-- a slice of bytes that the call made, from its block's head on -/
def OwnB (base : Nat) (w : World) (v : Value) (l : List UInt8) : Prop := w.ownsRow base 5 1 v l.length (l.map bv)

theorem Tryd.size5x : (Tryd.prog.info? 5).map (·.size) = some 1 := by kernel_rfl
theorem Tryd.info5x : (Tryd.prog.info? 5).map (fun i => (i.zero, i.size, i.bytes)) = some (some (.int .u8 0), 1, 1) := by kernel_rfl

theorem OwnB.bytes {base : Nat} {w : World} {v : Value} {l : List UInt8} (h : OwnB base w v l) (hl : l.length ≤ 140737488355328) : Bytes (fun b => base ≤ b) w v l := by
  have hc := fun {g : Nat} (hg : v.ownBlock = some g) => World.ownsRow.cells h hg
  have h' := h
  obtain ⟨hlen, hv⟩ := h'
  rcases hv with ⟨rfl, hx⟩ | ⟨g, cap, cur, rfl, hb, hg, hn, hm, hs, ht⟩
  · have h0 : l = [] := by simpa using hx
    subst h0
    exact Sl.nil _ _
  · refine ⟨_, cap, rfl, hn, hl, .inr ⟨g, 0, rfl, hb, fun i c hi => ?_⟩⟩
    have := hc (g := g) rfl i c hi
    unfold Addr.add at this
    simp only [Nat.zero_add] at this ⊢
    split at this <;> simp_all

/-- copy of a whole slice of bytes into a new row -/
theorem copy_run {P : Program} (w : World) (dT sT ty elem : TypeId) (g dLen dCap : Nat) (A : Option Addr) (sLen sCap : Nat) (cur : Array Value) (t : TypeId) (cs : List Value) (ok : Nat → Prop)
    (hu : P.underlying dT = some (.slice elem)) (hs : (P.info? elem).map (·.size) = some 1) (hg : w.heap[g]? = some (.cells cur t (0, 0))) (hn : cs.length = sLen) (hd : sLen ≤ dLen) (hr : Row ok w A cs) (hfit : cs.length ≤ cur.size) (h1 : ∀ v ∈ cs, v.oneCell' = true) :
    ∃ w2, (Builtin.copy_ #[dT, sT] ty #[.slice (some ⟨g, 0, none⟩) dLen dCap, .slice A sLen sCap]).run P w = .ok (.int .i64 sLen) w2 ∧ w2.heap[g]? = some (.cells (cs ++ cur.toList.drop cs.length).toArray t (0, 0)) ∧ ∀ B, B ≤ g → Below B w w2 := by
  cases A with
  | some a =>
    have hsrc : ∀ j v, cs[j]? = some v → w.cell? (a.add j) = some v := fun j v hj => by
      rcases hr with h | ⟨b, o, ha, _, h⟩
      · subst h; simp at hj
      · cases ha
        have := h j v hj
        unfold Addr.add
        split <;> simp_all
    have h := run_copy_row (P := P) w dT sT ty elem g 0 dLen dCap a sLen sCap cur t cs hu hs hg (by rw [hn]; exact (Nat.min_eq_left hd).symm) hsrc (by omega) h1
    refine ⟨_, by rw [h, hn]; rfl, ?_, fun B hB => below_setRow (Below.refl _ _) hB _⟩
    rw [setRow_heap w g _ _ t _ hg]
    simp [hn]
  | none =>
    have hc : cs = [] := by
      rcases hr with h | ⟨b, o, ha, _, h⟩
      · exact h
      · cases ha
    subst hc
    obtain rfl : 0 = sLen := hn
    refine ⟨w, ?_, by simpa using hg, fun B _ => Below.refl _ _⟩
    cases hq : P.info? elem with
    | none => simp [hq] at hs
    | some i => simp [Builtin.copy_, run_underlying hu, Builtin.lenOf, Builtin.firstCells, sizeOf, typeInfo, hq, storeCells, goInt]

def putCells (l : List UInt8) (size v : Nat) (little : Bool) (k : Nat) : List Value := (l ++ (encB size v little).take k).map bv ++ List.replicate (size - k) (.int .u8 0)

theorem encB_length (size v : Nat) (little : Bool) : (encB size v little).length = size := by simp [encB]
theorem putCells_all (l : List UInt8) (size v : Nat) (little : Bool) : putCells l size v little size = (l ++ encB size v little).map bv := by
  unfold putCells; rw [List.take_of_length_le (by rw [encB_length]; omega)]; simp
theorem putCells_at (l : List UInt8) (size v : Nat) (little : Bool) (k : Nat) (hk : k < size) : (putCells l size v little k)[l.length + k]? = some (.int .u8 0) := by
  unfold putCells
  have h : ((encB size v little).take k).length = k := by rw [List.length_take, encB_length]; omega
  rw [List.getElem?_append_right (by simp [encB_length]; omega)]
  simp only [List.length_map, List.length_append, h]
  rw [show l.length + k - (l.length + k) = 0 from by omega]
  obtain ⟨n, hn⟩ : ∃ n, size - k = n + 1 := ⟨size - k - 1, by omega⟩
  rw [hn]; rfl
theorem putCells_step (l : List UInt8) (size v : Nat) (little : Bool) (k : Nat) (hk : k < size) :
    (putCells l size v little k).set (l.length + k) (.int .u8 (((v / 2 ^ (8 * (if little then k else size - 1 - k)) % 256 : Nat) : Int))) = putCells l size v little (k + 1) := by
  unfold putCells
  have h : ((encB size v little).take k).length = k := by rw [List.length_take, encB_length]; omega
  obtain ⟨n, hn⟩ : ∃ n, size - k = n + 1 := ⟨size - k - 1, by omega⟩
  have he : (encB size v little)[k]? = some (UInt8.ofNat (v / 2 ^ (8 * (if little then k else size - 1 - k)))) := by
    simp [encB, hk]
  rw [hn, List.replicate_succ, List.take_add_one, he, show size - (k + 1) = n from by omega]
  rw [List.set_append_right _ _ (by rw [List.length_map, List.length_append, h]; exact Nat.le_refl _)]
  simp only [List.length_map, List.length_append, h]
  rw [show l.length + k - (l.length + k) = 0 from by omega]
  simp [bv]
theorem heap_store {w : World} {g j : Nat} {cs : List Value} {t : TypeId} (h : w.heap[g]? = some (.cells cs.toArray t (0, 0))) (u : Value) : (w.setCell ⟨g, j, none⟩ u).heap[g]? = some (.cells (cs.set j u).toArray t (0, 0)) := by
  obtain ⟨hlt, hk⟩ := Array.getElem?_eq_some_iff.1 h
  show (w.heap.modify g _)[g]? = _
  rw [Array.getElem?_eq_getElem (by rw [Array.size_modify]; exact hlt), Array.getElem_modify_self, hk]
  simp
theorem ownB_of {w : World} {g n base : Nat} {l : List UInt8} {t : TypeId} (h : w.heap[g]? = some (.cells (l.map bv).toArray t (0, 0))) (ht : t = 5) (hn : n = l.length) (hb : base ≤ g) (hl : l.length ≤ 140737488355328) : OwnB base w (.slice (some ⟨g, 0, none⟩) n n) l := by
  subst ht hn
  exact ⟨by simp, .inr ⟨g, l.length, (l.map bv).toArray, rfl, hb, h, Nat.le_refl _, by unfold maxLen; omega, by simp, by simp [List.take_of_length_le]⟩⟩

set_option maxRecDepth 100000 in
theorem put32_any {ok : Nat → Prop} {sv : Value} {l : List UInt8} (v : Nat) (little : Bool) (w : World) (hs : Bytes ok w sv l) (hl : l.length ≤ 70368744177664) :
    Calls Tryd.prog 49 #[sv, .int .u32 v, .int .i64 4, .bool little] w fun e w' => ∃ r, e = .returned r ∧ OwnB w.heap.size w' r (l ++ encB 4 v little) ∧ Below w.heap.size w w' := by
  obtain ⟨i0, hi, hz0, hz1, hz2⟩ := info_parts Tryd.info5x
  obtain ⟨w1, hmk, hown, hgr⟩ := run_make_full (P := Tryd.prog) w w.heap.size 35 5 i0 (.int .u8 0) 1 Tryd.underlying35 hi hz0 hz1 .i64 .i64 (l.length + 4) (by rw [hz2]; omega) (by unfold maxLen; omega) (Nat.le_refl _)
  have hmk' : (Instr.makeSlice 35 (.int .i64 ((l.length : Int) + 4)) (.int .i64 ((l.length : Int) + 4))).run Tryd.prog w = .ok (.slice (some ⟨w.heap.size, 0, none⟩) (l.length + 4) (l.length + 4)) w1 := hmk
  obtain ⟨A, c, rfl, hc, _, hr⟩ := hs
  obtain ⟨_, hov⟩ := hown
  rcases hov with ⟨hbad, _⟩ | ⟨g, cap, cur, hv2, _, hg, _, _, hsz, htk⟩
  · cases hbad
  simp only [Value.slice.injEq, Option.some.injEq, Addr.mk.injEq, and_true, true_and] at hv2
  obtain ⟨rfl, rfl⟩ := hv2
  have hcur : cur = (List.replicate (l.length + 4) (Value.int .u8 0)).toArray := by
    apply Array.toList_inj.1
    rw [List.take_of_length_le (by simp [hsz])] at htk
    rw [htk]
    rw [show (Value.int .u8 0).cells = #[Value.int .u8 0] from rfl, toList_madeCells_one, Nat.mul_one]
  subst hcur
  have hb1 : Below w.heap.size w w1 := (Below.refl _ _).grown hgr (Nat.le_refl _) (fun _ e => by cases e)
  have HR := Lib.hid hr
  have HB1 := Lib.hid hb1
  have HG := Lib.hid hg
  clear hmk hr hgr hb1 hg htk hsz
  obtain ⟨w2, hcp, hg2, hb2⟩ := copy_run (P := Tryd.prog) w1 35 35 3 5 w.heap.size (l.length + 4) (l.length + 4) A l.length c _ 5 (l.map bv) _ Tryd.underlying35 Tryd.size5x HG.out (by simp) (by omega) (HR.out.keeps (below_keeps HB1.out _)) (by simp) (by simp [bv, Value.oneCell'])
  have hb2' := HB1.out.trans (hb2 w.heap.size (Nat.le_refl _))
  have HG2 := Lib.hid hg2
  clear hb2 hg2 HR HG HB1
  go_enter Tryd.func49, Tryd.ntmps49
  go_wp2
  go_loopw [22] (fun i wr => ∃ k : Nat, k ≤ 4 ∧ i = .int .i64 k ∧ Hid (wr.heap[w.heap.size]? = some (.cells (putCells l 4 v little k).toArray 5 (0, 0))) ∧ Below w.heap.size w wr) (fun i _ => 4 - (intOf i).toNat)
  case atStart => exact ⟨0, by omega, rfl, by rw [Hid, HG2.out]; simp [putCells], hb2'⟩
  case round =>
    obtain ⟨k, hk, rfl, HC, hbl⟩ := hrel
    by_cases hlt : k < 4
    · have hat := putCells_at l 4 v little k hlt
      have c1 : wr.cell? ⟨w.heap.size, l.length + k, none⟩ = some (.int .u8 0) := by
        simp only [World.cell?, HC.out]
        simpa using hat
      have c2 : wr.frozen? ⟨w.heap.size, l.length + k, none⟩ = false := by simp [World.frozen?, HC.out]
      have hst := putCells_step l 4 v little k hlt
      have HST := Lib.hid hst
      clear hat hst
      cases little with
      | true =>
        go_wp2
        go_roundw
        case rel =>
          refine ⟨k + 1, by omega, by go_num, ?_, hbl.setCell (Nat.le_refl _) _⟩
          rw [Hid, ← HST.out]
          exact heap_store HC.out _
        case measure => simp [intOf]; omega
      | false =>
        go_wp2
        go_roundw
        case rel =>
          refine ⟨k + 1, by omega, by go_num, ?_, hbl.setCell (Nat.le_refl _) _⟩
          rw [Hid, ← HST.out]
          exact heap_store HC.out _
        case measure => simp [intOf]; omega
    · obtain rfl : k = 4 := by omega
      go_wp2
      go_ret
      have hh := HC.out
      rw [putCells_all] at hh
      exact ⟨_, rfl, ownB_of hh rfl (by simp [encB_length]) (Nat.le_refl _) (by simp [encB_length]; omega), hbl⟩

set_option maxRecDepth 100000 in
theorem put64_any {ok : Nat → Prop} {sv : Value} {l : List UInt8} (v : Nat) (little : Bool) (w : World) (hs : Bytes ok w sv l) (hl : l.length ≤ 70368744177664) :
    Calls Tryd.prog 122 #[sv, .int .u64 v, .int .i64 8, .bool little] w fun e w' => ∃ r, e = .returned r ∧ OwnB w.heap.size w' r (l ++ encB 8 v little) ∧ Below w.heap.size w w' := by
  obtain ⟨i0, hi, hz0, hz1, hz2⟩ := info_parts Tryd.info5x
  obtain ⟨w1, hmk, hown, hgr⟩ := run_make_full (P := Tryd.prog) w w.heap.size 35 5 i0 (.int .u8 0) 1 Tryd.underlying35 hi hz0 hz1 .i64 .i64 (l.length + 8) (by rw [hz2]; omega) (by unfold maxLen; omega) (Nat.le_refl _)
  have hmk' : (Instr.makeSlice 35 (.int .i64 ((l.length : Int) + 8)) (.int .i64 ((l.length : Int) + 8))).run Tryd.prog w = .ok (.slice (some ⟨w.heap.size, 0, none⟩) (l.length + 8) (l.length + 8)) w1 := hmk
  obtain ⟨A, c, rfl, hc, _, hr⟩ := hs
  obtain ⟨_, hov⟩ := hown
  rcases hov with ⟨hbad, _⟩ | ⟨g, cap, cur, hv2, _, hg, _, _, hsz, htk⟩
  · cases hbad
  simp only [Value.slice.injEq, Option.some.injEq, Addr.mk.injEq, and_true, true_and] at hv2
  obtain ⟨rfl, rfl⟩ := hv2
  have hcur : cur = (List.replicate (l.length + 8) (Value.int .u8 0)).toArray := by
    apply Array.toList_inj.1
    rw [List.take_of_length_le (by simp [hsz])] at htk
    rw [htk]
    rw [show (Value.int .u8 0).cells = #[Value.int .u8 0] from rfl, toList_madeCells_one, Nat.mul_one]
  subst hcur
  have hb1 : Below w.heap.size w w1 := (Below.refl _ _).grown hgr (Nat.le_refl _) (fun _ e => by cases e)
  have HR := Lib.hid hr
  have HB1 := Lib.hid hb1
  have HG := Lib.hid hg
  clear hmk hr hgr hb1 hg htk hsz
  obtain ⟨w2, hcp, hg2, hb2⟩ := copy_run (P := Tryd.prog) w1 35 35 3 5 w.heap.size (l.length + 8) (l.length + 8) A l.length c _ 5 (l.map bv) _ Tryd.underlying35 Tryd.size5x HG.out (by simp) (by omega) (HR.out.keeps (below_keeps HB1.out _)) (by simp) (by simp [bv, Value.oneCell'])
  have hb2' := HB1.out.trans (hb2 w.heap.size (Nat.le_refl _))
  have HG2 := Lib.hid hg2
  clear hb2 hg2 HR HG HB1
  go_enter Tryd.func122, Tryd.ntmps122
  go_wp2
  go_loopw [22] (fun i wr => ∃ k : Nat, k ≤ 8 ∧ i = .int .i64 k ∧ Hid (wr.heap[w.heap.size]? = some (.cells (putCells l 8 v little k).toArray 5 (0, 0))) ∧ Below w.heap.size w wr) (fun i _ => 8 - (intOf i).toNat)
  case atStart => exact ⟨0, by omega, rfl, by rw [Hid, HG2.out]; simp [putCells], hb2'⟩
  case round =>
    obtain ⟨k, hk, rfl, HC, hbl⟩ := hrel
    by_cases hlt : k < 8
    · have hat := putCells_at l 8 v little k hlt
      have c1 : wr.cell? ⟨w.heap.size, l.length + k, none⟩ = some (.int .u8 0) := by
        simp only [World.cell?, HC.out]
        simpa using hat
      have c2 : wr.frozen? ⟨w.heap.size, l.length + k, none⟩ = false := by simp [World.frozen?, HC.out]
      have hst := putCells_step l 8 v little k hlt
      have HST := Lib.hid hst
      clear hat hst
      cases little with
      | true =>
        go_wp2
        go_roundw
        case rel =>
          refine ⟨k + 1, by omega, by go_num, ?_, hbl.setCell (Nat.le_refl _) _⟩
          rw [Hid, ← HST.out]
          exact heap_store HC.out _
        case measure => simp [intOf]; omega
      | false =>
        go_wp2
        go_roundw
        case rel =>
          refine ⟨k + 1, by omega, by go_num, ?_, hbl.setCell (Nat.le_refl _) _⟩
          rw [Hid, ← HST.out]
          exact heap_store HC.out _
        case measure => simp [intOf]; omega
    · obtain rfl : k = 8 := by omega
      go_wp2
      go_ret
      have hh := HC.out
      rw [putCells_all] at hh
      exact ⟨_, rfl, ownB_of hh rfl (by simp [encB_length]) (Nat.le_refl _) (by simp [encB_length]; omega), hbl⟩

theorem Put32_any {ok : Nat → Prop} {sv : Value} {l : List UInt8} (v : Nat) (little : Bool) (w : World) (hs : Bytes ok w sv l) (hl : l.length ≤ 70368744177664) :
    Calls Tryd.prog 24 #[sv, .int .u32 v, .bool little] w fun e w' => ∃ r, e = .returned r ∧ OwnB w.heap.size w' r (l ++ encB 4 v little) ∧ Below w.heap.size w w' := by
  have H := Lib.hid (put32_any v little w hs hl)
  clear hs hl
  go_enter Tryd.func24, Tryd.ntmps24
  go_wp2_with fail
  refine H.out.mono ?_
  rintro e w' ⟨r, rfl, h1, h2⟩
  go_wp2
  go_ret
  exact ⟨r, rfl, h1, h2⟩

theorem Put64_any {ok : Nat → Prop} {sv : Value} {l : List UInt8} (v : Nat) (little : Bool) (w : World) (hs : Bytes ok w sv l) (hl : l.length ≤ 70368744177664) :
    Calls Tryd.prog 107 #[sv, .int .u64 v, .bool little] w fun e w' => ∃ r, e = .returned r ∧ OwnB w.heap.size w' r (l ++ encB 8 v little) ∧ Below w.heap.size w w' := by
  have H := Lib.hid (put64_any v little w hs hl)
  clear hs hl
  go_enter Tryd.func107, Tryd.ntmps107
  go_wp2_with fail
  refine H.out.mono ?_
  rintro e w' ⟨r, rfl, h1, h2⟩
  go_wp2
  go_ret
  exact ⟨r, rfl, h1, h2⟩
end Go.Proofs.YtlffgepnhhnadaaDoor.Pl
