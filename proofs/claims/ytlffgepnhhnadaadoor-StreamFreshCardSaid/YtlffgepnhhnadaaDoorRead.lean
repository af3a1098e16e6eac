/- octet.Reader, walked: made of bytes, it reads words while enough bytes are left. -/
import Derived.Test.YtlffgepnhhnadaaDoorPrintG
namespace Go.Proofs.YtlffgepnhhnadaaDoor.Pl
open Go.RowKit

/-- the number that bytes tell -/
def decB (l : List UInt8) (little : Bool) : Nat := if little then l.foldr (fun c v => c.toNat + 256 * v) 0 else l.foldl (fun v c => 256 * v + c.toNat) 0

theorem decL_lt : ∀ (l : List UInt8), l.foldr (fun c v => c.toNat + 256 * v) 0 < 256 ^ l.length
  | [] => by simp
  | c :: l => by
    have := decL_lt l
    have hc := c.toNat_lt
    simp only [List.foldr_cons, List.length_cons, Nat.pow_succ]
    omega

theorem decR_lt : ∀ (l : List UInt8) (v : Nat), l.foldl (fun v c => 256 * v + c.toNat) v < 256 ^ l.length * (v + 1)
  | [], v => by simp
  | c :: l, v => by
    have := decR_lt l (256 * v + c.toNat)
    have hc := c.toNat_lt
    simp only [List.foldl_cons, List.length_cons, Nat.pow_succ]
    refine Nat.lt_of_lt_of_le this ?_
    rw [Nat.mul_assoc]
    exact Nat.mul_le_mul_left _ (by omega)
theorem decB_lt (little : Bool) (l : List UInt8) : decB l little < 256 ^ l.length := by
  cases little
  · have := decR_lt l 0; simpa [decB] using this
  · exact decL_lt l
theorem decL_snoc : ∀ (l : List UInt8) (c : UInt8), (l ++ [c]).foldr (fun c v => c.toNat + 256 * v) 0 = l.foldr (fun c v => c.toNat + 256 * v) 0 + 256 ^ l.length * c.toNat
  | [], c => by simp
  | d :: l, c => by
    have := decL_snoc l c
    simp only [List.cons_append, List.foldr_cons, List.length_cons, Nat.pow_succ, this]
    rw [Nat.mul_add, ← Nat.add_assoc, ← Nat.mul_assoc, Nat.mul_comm 256 (256 ^ l.length)]
theorem dec_next (little : Bool) {l : List UInt8} {at_ k : Nat} (hx : at_ + k < l.length) : decB ((l.drop at_).take (k + 1)) little = if little then decB ((l.drop at_).take k) little + 256 ^ k * (l[at_ + k]).toNat else 256 * decB ((l.drop at_).take k) little + (l[at_ + k]).toNat := by
  have h : (l.drop at_)[k]? = some l[at_ + k] := by rw [List.getElem?_drop, List.getElem?_eq_getElem hx]
  have hl : ((l.drop at_).take k).length = k := by simp; omega
  rw [List.take_add_one, h]
  cases little
  · simp [decB]
  · have := decL_snoc ((l.drop at_).take k) l[at_ + k]
    rw [hl] at this
    simpa [decB] using this
theorem or_big (v c : Nat) (hv : v < 72057594037927936) (hc : c < 256) : bits .or .u64 (IntKind.u64.wrap ((v : Int) * 256)) (c : Int) = ((256 * v + c : Nat) : Int) := by
  have h1 : IntKind.u64.wrap ((v : Int) * 256) = ((256 * v : Nat) : Int) := by rw [IntKind.wrap_u64]; omega
  rw [h1, bits_or_u64_nat _ _ (by omega) (by omega)]
  have := Nat.two_pow_add_eq_or_of_lt (i := 8) (b := c) (by omega) v
  rw [show (256 : Nat) = 2 ^ 8 from rfl, this]
theorem or_little (v c k : Nat) (hv : v < 256 ^ k) (hk : k ≤ 7) (hc : c < 256) : bits .or .u64 (v : Int) (IntKind.u64.wrap ((c : Int) * 2 ^ (8 * k))) = ((v + 256 ^ k * c : Nat) : Int) := by
  have hp : (256 : Nat) ^ k = 2 ^ (8 * k) := by rw [Nat.pow_mul]
  have hle : (256 : Nat) ^ k ≤ 72057594037927936 := Nat.le_trans (Nat.pow_le_pow_right (by omega) hk) (by decide)
  have hm : c * 256 ^ k ≤ 255 * 72057594037927936 := Nat.mul_le_mul (by omega) hle
  have hcast : (c : Int) * 2 ^ (8 * k) = ((c * 256 ^ k : Nat) : Int) := by rw [hp]; push_cast; rfl
  have hor := Nat.two_pow_add_eq_or_of_lt (i := 8 * k) (b := v) (by rw [← hp]; exact hv) c
  rw [← hp, Nat.mul_comm (256 ^ k) c] at hor
  rw [hcast, Nat.mul_comm (256 ^ k) c]
  generalize c * 256 ^ k = m at hor hm
  have h1 : IntKind.u64.wrap (m : Int) = (m : Int) := by rw [IntKind.wrap_u64]; omega
  rw [h1, bits_or_u64_nat _ _ (by omega) (by omega), Nat.or_comm, ← hor, Nat.add_comm]

/-- a reader in block rb: its bytes, how many were read -/
structure IsRd (w : World) (rb : Nat) (v : Value) (l : List UInt8) (at_ : Nat) : Prop where
  blk : w.heap[rb]? = some (.cells #[v, .int .i64 at_, .bool false] 221 (0, 0))
  bytes : Bytes (fun b => b ≠ rb ∧ b < w.heap.size) w v l
  le : at_ ≤ l.length

theorem IsRd.grown {w w' : World} {rb at_ : Nat} {v : Value} {l : List UInt8} (h : IsRd w rb v l at_) {k : Nat} (hk : k ≤ l.length) (hb : w'.heap[rb]? = some (.cells #[v, .int .i64 k, .bool false] 221 (0, 0))) (hg : w.grownBy w' (some rb)) : IsRd w' rb v l k := by
  refine ⟨hb, (h.bytes.keeps (w' := w') fun b o hb hh _ => (hg.block b hb.2 (fun e => hb.1 (Option.some.inj e))).trans hh).mono ?_, hk⟩
  exact fun b _ hb => ⟨hb.1, Nat.lt_of_lt_of_le hb.2 hg.size⟩
theorem IsRd.step {w : World} {rb at_ : Nat} {v : Value} {l : List UInt8} (h : IsRd w rb v l at_) (n k : Nat) (hk : at_ + k ≤ l.length) :
    IsRd ((w.drewN n).setCell ⟨rb, 1, none⟩ (.int .i64 (at_ + k))) rb v l (at_ + k) ∧ w.grownBy ((w.drewN n).setCell ⟨rb, 1, none⟩ (.int .i64 (at_ + k))) (some rb) := by
  have hg : w.grownBy ((w.drewN n).setCell ⟨rb, 1, none⟩ (.int .i64 (at_ + k))) (some rb) :=
    have h2 := grownBy_set (w.drewN n) ⟨rb, 1, none⟩ (.int .i64 (at_ + k)); ⟨h2.os, h2.tape, h2.output, h2.size, h2.block⟩
  refine ⟨h.grown hk ?_ hg, hg⟩
  have := heap_store (w := w.drewN n) (cs := [v, .int .i64 at_, .bool false]) h.blk (j := 1) (.int .i64 (at_ + k))
  simpa using this

set_option maxRecDepth 100000 in
theorem take_any {rb at_ : Nat} {v : Value} {l : List UInt8} (size : Nat) (little : Bool) (w : World) (hr : IsRd w rb v l at_) (hs : 1 ≤ size ∧ size ≤ 8) (hl : at_ + size ≤ l.length) :
    Calls Tryd.prog 138 #[.pointer (some ⟨rb, 0, none⟩), .int .i64 size, .bool little] w fun e w' => e = .returned (.int .u64 (decB ((l.drop at_).take size) little)) ∧ IsRd w' rb v l (at_ + size) ∧ w.grownBy w' (some rb) := by
  have HI := Lib.hid hr
  obtain ⟨hblk, ⟨A, c, rfl, hc, hl2, hrow⟩, hle⟩ := hr
  have hp0 : w.cell? ⟨rb, 0, none⟩ = some (.slice A l.length c) := by simp [World.cell?, hblk]
  have hp1 : w.cell? ⟨rb, 1, none⟩ = some (.int .i64 at_) := by simp [World.cell?, hblk]
  have hp2 : w.cell? ⟨rb, 2, none⟩ = some (.bool false) := by simp [World.cell?, hblk]
  have hf1 : w.frozen? ⟨rb, 1, none⟩ = false := by simp [World.frozen?, hblk]
  obtain ⟨b, o, rfl, hb, _, hcell⟩ := hrow.at (by intro h; simp at h; subst h; simp at hl; omega)
  have HC := Lib.hid hcell
  have HB := Lib.hid hblk
  have HW := Lib.hid hrow
  clear hcell hblk hrow
  go_enter Tryd.func138, Tryd.ntmps138
  have hnl : ¬ (l.length : Int) - at_ < size := by omega
  have hwr : IntKind.i64.wrap ((l.length : Int) - at_) = (l.length : Int) - at_ := by rw [IntKind.wrap_i64]; omega
  go_wp2
  go_quiet (fail)
  go_wp2
  go_quiet (fail)
  go_wp2
  go_loop [7, 47] (fun v i => ∃ k : Nat, k ≤ size ∧ i = .int .i64 k ∧ v = .int .u64 (decB ((l.drop at_).take k) little)) (fun _ i => size - (intOf i).toNat)
  case atStart => exact ⟨0, Nat.zero_le _, rfl, by cases little <;> simp [decB]⟩
  case round =>
    obtain ⟨k, hk, rfl, rfl⟩ := hrel
    by_cases hkl : k < size
    · have hx : at_ + k < l.length := by omega
      have cc := HC.out (at_ + k) (bv l[at_ + k]) (by rw [List.getElem?_map, List.getElem?_eq_getElem hx]; rfl)
      rw [← Nat.add_assoc] at cc
      have hnx := dec_next little hx
      have hvl := decB_lt little ((l.drop at_).take k)
      have hck := (l[at_ + k]).toNat_lt
      generalize hdv : decB ((l.drop at_).take k) little = dv at hnx hvl
      simp only [bv] at cc
      generalize (l[at_ + k]).toNat = cv at cc hnx hck
      have hlen : ((l.drop at_).take k).length = k := by simp; omega
      rw [hlen] at hvl
      have hp7 : (256 : Nat) ^ k ≤ 72057594037927936 := Nat.le_trans (Nat.pow_le_pow_right (by omega) (show k ≤ 7 by omega)) (by decide)
      have HD := Lib.hid hdv
      clear hdv
      cases little
      · have hob := or_big dv cv (by omega) (by omega)
        have HN := Lib.hid hnx
        clear hnx
        have hob' := hob
        rw [show IntKind.u64.wrap ((dv : Int) * 256) = (dv : Int) * 256 by rw [IntKind.wrap_u64]; omega] at hob'
        go_wp2
        refine ⟨⟨_, _, _, _, ⟨k + 1, by omega, rfl, rfl⟩, by rw [HN.out]; simp, rfl, rfl, by simp⟩, by simp [intOf]; omega⟩
      · have hol := or_little dv cv k hvl (by omega) (by omega)
        have HN := Lib.hid hnx
        clear hnx
        go_wp2
        refine ⟨⟨_, _, _, _, ⟨k + 1, by omega, rfl, rfl⟩, by rw [HN.out]; simp, rfl, rfl, by simp⟩, by simp [intOf]; omega⟩
    · have hke : k = size := by omega
      subst hke
      have hstep := fun n => HI.out.step n k hl
      go_wp2
      go_ret
      exact ⟨rfl, hstep _⟩

theorem decB_one (l : List UInt8) (at_ : Nat) (h : at_ < l.length) (little : Bool) : decB ((l.drop at_).take 1) little = l[at_].toNat := by
  have := dec_next little (l := l) (at_ := at_) (k := 0) (by simpa using h)
  rw [this]
  cases little <;> simp [decB]
theorem Byte_any {rb at_ : Nat} {v : Value} {l : List UInt8} (w : World) (hr : IsRd w rb v l at_) (hl : at_ < l.length) :
    Calls Tryd.prog 124 #[.pointer (some ⟨rb, 0, none⟩)] w fun e w' => e = .returned (bv l[at_]) ∧ IsRd w' rb v l (at_ + 1) ∧ w.grownBy w' (some rb) := by
  have H := Lib.hid (take_any 1 false w hr (by omega) (by omega))
  have hlt := l[at_].toNat_lt
  have hd := decB_one l at_ hl false
  generalize decB ((l.drop at_).take 1) false = d at H hd
  have hw : IntKind.u8.wrap (d : Int) = ((l[at_].toNat : Nat) : Int) := by rw [hd, IntKind.wrap_u8]; omega
  clear hd hr
  go_enter Tryd.func124, Tryd.ntmps124
  go_wp2_with fail
  refine H.out.mono ?_
  rintro e w' ⟨rfl, h⟩
  have HH := Lib.hid h
  clear h
  go_wp2
  go_ret
  exact ⟨rfl, HH.out⟩
theorem Word32_any {rb at_ : Nat} {v : Value} {l : List UInt8} (little : Bool) (w : World) (hr : IsRd w rb v l at_) (hl : at_ + 4 ≤ l.length) :
    Calls Tryd.prog 125 #[.pointer (some ⟨rb, 0, none⟩), .bool little] w fun e w' => e = .returned (.int .u32 (decB ((l.drop at_).take 4) little)) ∧ IsRd w' rb v l (at_ + 4) ∧ w.grownBy w' (some rb) := by
  have H := Lib.hid (take_any 4 little w hr (by omega) (by omega))
  have hd := decB_lt little ((l.drop at_).take 4)
  have hll : ((l.drop at_).take 4).length = 4 := by simp; omega
  rw [hll] at hd
  generalize decB ((l.drop at_).take 4) little = d at H hd ⊢
  have hw : IntKind.u32.wrap (d : Int) = (d : Int) := by rw [IntKind.wrap_u32]; omega
  clear hd hr
  go_enter Tryd.func125, Tryd.ntmps125
  go_wp2_with fail
  refine H.out.mono ?_
  rintro e w' ⟨rfl, h⟩
  have HH := Lib.hid h
  clear h
  go_wp2
  go_ret
  exact ⟨rfl, HH.out⟩
theorem Word64_any {rb at_ : Nat} {v : Value} {l : List UInt8} (little : Bool) (w : World) (hr : IsRd w rb v l at_) (hl : at_ + 8 ≤ l.length) :
    Calls Tryd.prog 139 #[.pointer (some ⟨rb, 0, none⟩), .bool little] w fun e w' => e = .returned (.int .u64 (decB ((l.drop at_).take 8) little)) ∧ IsRd w' rb v l (at_ + 8) ∧ w.grownBy w' (some rb) := by
  have H := Lib.hid (take_any 8 little w hr (by omega) (by omega))
  clear hr
  go_enter Tryd.func139, Tryd.ntmps139
  go_wp2_with fail
  refine H.out.mono ?_
  rintro e w' ⟨rfl, h⟩
  have HH := Lib.hid h
  clear h
  go_wp2
  go_ret
  exact ⟨rfl, HH.out⟩
theorem At_any {rb at_ : Nat} {v : Value} {l : List UInt8} (w : World) (hr : IsRd w rb v l at_) :
    Calls Tryd.prog 112 #[.pointer (some ⟨rb, 0, none⟩)] w fun e w' => e = .returned (.int .i64 at_) ∧ w = w' := by
  have hp1 : w.cell? ⟨rb, 1, none⟩ = some (.int .i64 at_) := by simp [World.cell?, hr.blk]
  clear hr
  go_enter Tryd.func112, Tryd.ntmps112
  go_wp2
  go_ret
  exact ⟨rfl, rfl⟩
theorem Left_any {rb at_ : Nat} {v : Value} {l : List UInt8} (w : World) (hr : IsRd w rb v l at_) :
    Calls Tryd.prog 111 #[.pointer (some ⟨rb, 0, none⟩)] w fun e w' => e = .returned (.int .i64 ((l.length - at_ : Nat))) ∧ ∃ n, w' = w.drewN n := by
  obtain ⟨hblk, ⟨A, c, rfl, hc, hl2, hrow⟩, hle⟩ := hr
  have hp0 : w.cell? ⟨rb, 0, none⟩ = some (.slice A l.length c) := by simp [World.cell?, hblk]
  have hp1 : w.cell? ⟨rb, 1, none⟩ = some (.int .i64 at_) := by simp [World.cell?, hblk]
  have hwr : IntKind.i64.wrap ((l.length : Int) - at_) = ((l.length - at_ : Nat) : Int) := by rw [IntKind.wrap_i64]; omega
  generalize l.length - at_ = d at hwr ⊢
  generalize l.length = L at *
  clear hrow hblk
  go_enter Tryd.func111, Tryd.ntmps111
  go_wp2
  go_quiet (fail)
  go_wp2
  go_ret
  exact ⟨rfl, _, rfl⟩

/-- append of bytes, wherever they lie, to a made slice: in the list of a plain region -/
theorem list_append_b {w : World} {ops : Array Oper} {rest : List Oper} {o : Oper} {a : Act} {Q : Exit → Act → World → Prop} (hgd : o.guard = none) (s x : Operand)
    (ho : o.op = .call { callee := .builtin .append, args := #[s, x], argTypes := #[35, 35] }) {B : Nat} {ok : Nat → Prop} (v y : Value) {l m : List UInt8} (hs : a.eval s = v) (hx : a.eval x = y) (hv : OwnB B w v l) (hy : Bytes ok w y m) (hm : m ≠ []) (hl : l.length + m.length ≤ 140737488355328) (hB : B ≤ w.heap.size)
    (h : ∀ g cap w', OwnB B w' (.slice (some ⟨g, 0, none⟩) (l.length + m.length) cap) (l ++ m) → w.grownBy w' v.ownBlock → (v.ownBlock = some g ∨ g = w.heap.size) → g < w'.heap.size → wpList Tryd.prog ops Q rest (a.put o.dst (.slice (some ⟨g, 0, none⟩) (l.length + m.length) cap)) w') :
    wpList Tryd.prog ops Q (o :: rest) a w := by
  obtain ⟨i0, hi, hz0, hz1, hz2⟩ := info_parts Tryd.info5x
  obtain ⟨b, ob, c2, rfl, _, _, _, _, hcell⟩ := hy.open (by simpa using hm)
  refine wpList_append_lies w hgd s x 35 ho B 5 i0 (.int .u8 0) 1 1 Tryd.underlying35 hi hz0 hz1 hz2 rfl (by decide) v l.length (l.map bv) hs hv ⟨b, ob, none⟩ m.length c2 (m.map bv) hx (by simp) (fun j u h => by
    have := hcell j u h
    unfold Addr.add
    split
    · rename_i e; subst e; simpa using this
    · exact this) (by simp [bv, Value.oneCell']) (List.length_pos_iff.2 hm) (by unfold maxLen; omega) (by omega) hB w.heap.size rfl ?_
  intro g cap w' h2 h3 h4 h5
  refine h g cap w' ?_ h3 h4 h5
  unfold OwnB
  rw [List.map_append, List.length_append]; exact h2

set_option maxRecDepth 100000 in
theorem NewReader_any {ok : Nat → Prop} {v : Value} {l : List UInt8} (w : World) (hv : Bytes ok w v l) :
    Calls Tryd.prog 109 #[v] w fun e w' => ∃ rb v', e = .returned (.pointer (some ⟨rb, 0, none⟩)) ∧ IsRd w' rb v' l 0 ∧ w.heap.size ≤ rb ∧ Below w.heap.size w w' := by
  have hv0 := hv
  obtain ⟨A, c, rfl, hc, hl2, hrow⟩ := hv
  obtain ⟨w1, hw1⟩ : ∃ w1, w1 = w.alloc (.cells #[] 5) := ⟨_, rfl⟩
  have hb1 : Below w.heap.size w w1 := by subst hw1; exact (Below.refl _ w).alloc (Nat.le_refl _) _
  have hblk : w1.heap[w.heap.size]? = some (.cells #[] 5 (0, 0)) := by subst hw1; exact World.alloc_heap_new _ _
  have hown : OwnB w.heap.size w1 (.slice (some ⟨w.heap.size, 0, none⟩) 0 0) [] := ownB_of (l := []) hblk rfl rfl (Nat.le_refl _) (by simp)
  by_cases hn : l = []
  · subst hn
    have hfin : IsRd (w1.alloc (.cells #[.slice (some ⟨w.heap.size, 0, none⟩) 0 0, .int .i64 0, .bool false] 221)) w1.heap.size (.slice (some ⟨w.heap.size, 0, none⟩) 0 0) [] 0 :=
      ⟨World.alloc_heap_new _ _, ⟨_, _, rfl, Nat.le_refl _, by simp, .inl rfl⟩, Nat.le_refl _⟩
    have HF := Lib.hid hfin
    have HB := Lib.hid (hb1.alloc hb1.size (.cells #[.slice (some ⟨w.heap.size, 0, none⟩) 0 0, .int .i64 0, .bool false] 221))
    have hsz : w1.heap.size = w.heap.size + 1 := by subst hw1; exact Array.size_push _
    have HSZ := Lib.hid hb1.size
    clear hfin hblk hown hrow hb1
    cases A <;>
    · go_enter Tryd.func109, Tryd.ntmps109
      go_wp2
      go_ret
      refine ⟨w.heap.size + 1, .slice (some ⟨w.heap.size, 0, none⟩) 0 0, rfl, ?_, by omega, ?_⟩
      · have := HF.out; rw [hsz, hw1] at this; exact this
      · have := HB.out; rw [hw1] at this; exact this
  · have HV := Lib.hid hown
    have HY := Lib.hid (hv0.keeps (below_keeps hb1 ok))
    clear hrow hv0 hblk hown
    go_enter Tryd.func109, Tryd.ntmps109
    go_wp2_with (first
      | (refine list_append_b rfl (.tmp 3) (.tmp 4) rfl _ _ rfl rfl (hw1 ▸ HV.out) (hw1 ▸ HY.out) hn (by simpa using hl2) (hw1 ▸ hb1.size) ?_
         intro g cap w2 ho hgr hg hlt
         rw [← hw1] at hgr hg
         have HR := Lib.hid (And.intro ho (And.intro hgr hg))
         clear ho hgr hg)
      | fail)
    go_ret
    have h1 := HR.out.1
    rw [List.nil_append, List.length_nil, Nat.zero_add] at h1
    have hBl : Below w.heap.size w w2 := hb1.grown HR.out.2.1 hb1.size (fun k e => by
      have : some w.heap.size = some k := e
      simp at this; omega)
    refine ⟨w2.heap.size, _, rfl, ⟨World.alloc_heap_new _ _, ?_, Nat.zero_le _⟩, hBl.size, hBl.alloc hBl.size _⟩
    have hby := h1.bytes hl2
    exact ((hby.mono (ok' := fun b => b < w2.heap.size) fun b hb _ => hb).keeps (below_keeps ((Below.refl _ w2).alloc (Nat.le_refl _) _) _)).mono fun b hb hh => ⟨Nat.ne_of_lt hh, hb⟩
end Go.Proofs.YtlffgepnhhnadaaDoor.Pl
