/- nat: the size of a list of words, its normal form, one word, bits. -/
import Derived.Test.YtjdelpelnjhidaaGreatDoorWideD
import Derived.Deep.DeepMust
namespace Go.Proofs.YtjdelpelnjhidaaGreatDoor.Pl
open Go.RowKit
abbrev Wx (w : World) (v : Value) (l : List Nat) : Prop := Wd (fun _ => True) w v l
theorem size_snoc_zero (a : List Nat) : size (a ++ [0]) = size a := by
  induction a with
  | nil => rfl
  | cons x a ih => simp only [List.cons_append, size, ih]
theorem size_snoc_ne (a : List Nat) (x : Nat) (hx : x ≠ 0) : size (a ++ [x]) = a.length + 1 := by
  induction a with
  | nil => simp [size, hx]
  | cons y a ih => simp [size, ih]
/-- words in a slice: its form, and its cells -/
theorem Wx.view {w : World} {v : Value} {l : List Nat} (h : Wx w v l) : ∃ A c, v = .slice A l.length c ∧ l.length ≤ c ∧ (l ≠ [] → ∃ b o, A = some ⟨b, o, none⟩ ∧ b < w.heap.size ∧ ∀ (i x : Nat), l[i]? = some x → w.cell? ⟨b, o + i, none⟩ = some (.int .u64 x)) := by
  obtain ⟨_, A, c, rfl, hc, _, hr⟩ := h
  refine ⟨A, c, rfl, hc, fun hn => ?_⟩
  obtain ⟨b, o, rfl, _, hb, hx⟩ := hr.at (by simpa using hn)
  exact ⟨b, o, rfl, hb, fun i x hi => hx i _ (uv_get l i x hi)⟩
theorem Wx.at {w : World} {A : Option Addr} {n c : Nat} {l : List Nat} (h : Wx w (.slice A n c) l) (hn : l ≠ []) : ∃ b o, A = some ⟨b, o, none⟩ ∧ b < w.heap.size ∧ ∀ (i x : Nat), l[i]? = some x → w.cell? ⟨b, o + i, none⟩ = some (.int .u64 x) := by
  obtain ⟨A', c', hv, _, hx⟩ := h.view
  obtain ⟨b, o, rfl, hb, hc⟩ := hx hn
  cases hv
  exact ⟨b, o, rfl, hb, hc⟩
/-- words of a row that the call made -/
theorem Ar.wx {w : World} {b t : Nat} {l : List Nat} (h : Ar w b t l) (hw : W64 l) (off n c : Nat) (hn : off + n ≤ l.length) (hc : n ≤ c) (hl : l.length ≤ 140737488355328) : Wx w (.slice (some ⟨b, off, none⟩) n c) ((l.drop off).take n) := by
  have hln : ((l.drop off).take n).length = n := by rw [List.length_take, List.length_drop]; omega
  refine ⟨(hw.drop off).take n, some ⟨b, off, none⟩, c, by rw [hln], by omega, by omega, .inr ⟨b, off, rfl, trivial, fun i u hu => ?_⟩⟩
  rw [List.getElem?_map] at hu
  obtain ⟨x, hx, rfl⟩ := Option.map_eq_some_iff.1 hu
  rw [List.getElem?_take] at hx
  split at hx
  · rw [List.getElem?_drop] at hx
    exact h.cell hx
  · cases hx
theorem Ar.wx0 {w : World} {b t : Nat} {l : List Nat} (h : Ar w b t l) (hw : W64 l) {n : Nat} (hn : n = l.length) (hl : l.length ≤ 140737488355328) : Wx w (.slice (some ⟨b, 0, none⟩) n n) l := by
  have := h.wx hw 0 n n (by omega) (Nat.le_refl _) hl
  rwa [List.drop_zero, hn, List.take_length, ← hn] at this
theorem Wx.cut {w : World} {A : Option Addr} {m c : Nat} {l : List Nat} (h : Wx w (.slice A m c) l) (n c' : Nat) (hn : n ≤ l.length) (hc : n ≤ c') : Wx w (.slice A n c') (l.take n) := by
  have hln : (l.take n).length = n := List.length_take_of_le hn
  obtain ⟨hw, A', k, hv, hk, hl, hr⟩ := h
  cases hv
  refine ⟨hw.take n, A, c', by rw [hln], by omega, by omega, ?_⟩
  rcases hr with hr | ⟨b, o, rfl, hb, hx⟩
  · left
    rw [List.map_eq_nil_iff] at hr ⊢
    rw [hr]; simp
  · right
    refine ⟨b, o, rfl, hb, fun i u hu => hx i u ?_⟩
    rw [List.map_take, List.getElem?_take] at hu
    split at hu
    · exact hu
    · cases hu
set_option maxRecDepth 100000 in
theorem size_any (v : Value) (l : List Nat) (w : World) (h : Wx w v l) : Calls Tryz.prog 117 #[v] w fun e w' => e = .returned (.int .i64 (size l)) ∧ w' = w := by
  have hlen := h.len
  obtain ⟨A, c, rfl, hlc, hx⟩ := h.view
  go_enter Tryz.func117, Tryz.ntmps117
  go_wp2_with fail
  go_loopw [3] (fun i W => ∃ k : Nat, i = .int .i64 k ∧ k ≤ l.length ∧ Hid (size l = size (l.take k)) ∧ W = w) (fun i _ => (intOf i).toNat)
  case atStart => exact ⟨l.length, rfl, Nat.le_refl _, Lib.hid (by rw [List.take_length]), rfl⟩
  case round =>
    obtain ⟨k, rfl, hk, hs, rfl⟩ := hrel
    cases k with
    | zero =>
      go_wp2_with fail
      go_ret
      exact ⟨by rw [hs.out]; rfl, rfl⟩
    | succ m =>
      obtain ⟨x, hxm⟩ : ∃ x, l[m]? = some x := ⟨_, List.getElem?_eq_getElem (by omega)⟩
      obtain ⟨b, o, rfl, hb, hcell⟩ := hx (by intro e; subst e; simp at hxm)
      have hc := hcell m x hxm
      have ht := take_succ_some hxm
      by_cases h0 : x = 0
      · subst h0
        go_wp2_with fail
        go_roundw
        case rel => exact ⟨m, by go_num, by omega, Lib.hid (by rw [hs.out, ht, size_snoc_zero]), by trivial⟩
        case measure => simp [intOf]
      · have h1 : ¬ (x : Int) = 0 := by omega
        go_wp2_with fail
        go_ret
        have hmin : (l.take m).length = m := List.length_take_of_le (by omega)
        exact ⟨by rw [hs.out, ht, size_snoc_ne _ _ h0, hmin]; rfl, rfl⟩
theorem splice_map (L cs : List Nat) (off : Nat) : (splice L off cs).map uv = splice (L.map uv) off (cs.map uv) := by
  simp [splice, List.map_take, List.map_drop]
/-- copy of words into a row that the call made -/
theorem list_copyW {w : World} {ops : Array Oper} {rest : List Oper} {o : Oper} {a : Act} {Q : Exit → Act → World → Prop} (hgd : o.guard = none) (d s : Operand)
    (ho : o.op = .call { callee := .builtin .copy, args := #[d, s], argTypes := #[33, 33] }) {g off dLen dCap : Nat} (hd : a.eval d = .slice (some ⟨g, off, none⟩) dLen dCap) {v : Value} (hs : a.eval s = v) {l : List Nat} (hv : Wx w v l)
    {cur : List Nat} {T : Nat} (hg : Ar w g T cur) (m : Nat) (hm : m = Nat.min l.length dLen) (hfit : off + m ≤ cur.length)
    (h : ∀ w', Hid (Ar w' g T (splice cur off (l.take m))) → Below g w w' → wpList Tryz.prog ops Q rest (a.put o.dst (goInt m)) w') : wpList Tryz.prog ops Q (o :: rest) a w := by
  obtain ⟨A, c, rfl, hc, hx⟩ := hv.view
  have hml : m ≤ l.length := by rw [hm]; exact Nat.min_le_left _ _
  have hlm : ((l.take m).map uv).length = m := by rw [List.length_map, List.length_take]; omega
  have h0 := @wpList_copy_splice Tryz.prog w ops rest o a Q hgd d s 33 33 ho 22 Tryz.underlying33 Tryz.size64x (some ⟨g, off, none⟩) A dLen dCap l.length c hd hs g off (cur.map uv) T hg ((l.take m).map uv) (by rw [hlm, hm]) ?_ (by rw [hlm, List.length_map]; exact hfit) (uv_one _) g w (Below.refl _ _) (Nat.le_refl _) ?_
  · exact h0
  · intro hp
    rw [hlm] at hp
    obtain ⟨b, o', rfl, hb, hcell⟩ := hx (by intro e; subst e; simp at hml; omega)
    refine ⟨rfl, ⟨b, o', none⟩, rfl, fun j u hu => ?_⟩
    rw [List.getElem?_map] at hu
    obtain ⟨x, hxj, rfl⟩ := Option.map_eq_some_iff.1 hu
    rw [List.getElem?_take] at hxj
    split at hxj
    · exact (by unfold Addr.add; split <;> simp_all : w.cell? ((⟨b, o', none⟩ : Addr).add j) = w.cell? ⟨b, o' + j, none⟩).trans (hcell j x hxj)
    · cases hxj
  · intro w' hw' hb'
    rw [hlm]
    exact h w' (by unfold Ar; rw [splice_map]; exact hw') hb'
theorem wx_val {w : World} {b : Nat} {n : Nat} {k : Nat} (h : Ar w b 22 (ws n)) (hk : k = (ws n).length) (hl : (ws n).length ≤ 140737488355328) : Wx w (.slice (some ⟨b, 0, none⟩) k k) (ws n) := h.wx0 (ws_w n) hk hl
theorem splice_all {α : Type} (L cs : List α) (h : cs.length = L.length) : splice L 0 cs = cs := by simp [splice, h]
set_option maxRecDepth 100000 in
theorem norm_any (v : Value) (l : List Nat) (w : World) (h : Wx w v l) (hl : l.length ≤ 17592186044416) : Calls Tryz.prog 114 #[v] w fun e w' => (∃ n, n = (ws (val l)).length ∧ e = .returned (.slice (some ⟨w.heap.size, 0, none⟩) n n)) ∧ Hid (Ar w' w.heap.size 22 (ws (val l))) ∧ Below w.heap.size w w' := by
  obtain ⟨n, hn⟩ : ∃ n, n = size l := ⟨_, rfl⟩
  have HS := Lib.hid (size_any v l w h)
  rw [← hn] at HS
  have HZ := Lib.hid (size_ws h.1)
  have hsl := size_le l
  have HK := Lib.hid (take_size h.1)
  rw [← hn] at HZ hsl HK
  obtain ⟨w1, hmk, hg1, hb1⟩ := make_words n w (by omega)
  have hv1 : Wx w1 v l := h.below hb1
  have HG := Lib.hid hg1
  have HB := hb1
  clear hg1 hn hb1
  have hm : n = Nat.min l.length n := by show n = min _ _; omega
  have HM := Lib.hid hm
  clear hm
  go_enter Tryz.func114, Tryz.ntmps114
  go_wp2_with (first | (go_at_call_of 117 v; refine HS.out.mono ?_; rintro e w' ⟨rfl, rfl⟩) | ((with_reducible show wpList _ _ _ _ _ _); (refine list_copyW (o := ⟨some 9, _, _, _, _, _⟩) rfl (.tmp 7) (.tmp 8) rfl (by exact rfl) (by exact rfl) hv1 (T := 22) HG.out n HM.out (by simp) ?_; intro w2 hg2 hb2)) | fail)
  go_ret
  refine ⟨⟨n, HZ.out, rfl⟩, ?_, HB.trans hb2⟩
  have h1 := hg2.out
  rw [splice_all _ _ (by rw [List.length_take, List.length_replicate]; omega), HK.out] at h1
  exact Lib.hid h1
/-- a normal form in new memory: as words -/
theorem norm_wx (v : Value) (l : List Nat) (w : World) (h : Wx w v l) (hl : l.length ≤ 17592186044416) : Calls Tryz.prog 114 #[v] w fun e w' => (∃ u, e = .returned u ∧ Wx w' u (ws (val l))) ∧ Below w.heap.size w w' := by
  refine (norm_any v l w h hl).mono ?_
  rintro e w' ⟨⟨n, hn, rfl⟩, hg, hb⟩
  have h1 := size_ws h.1
  have h2 := size_le l
  exact ⟨⟨_, rfl, wx_val hg.out hn (by omega)⟩, hb⟩
set_option maxRecDepth 100000 in
theorem bound_any (v : Value) (l : List Nat) (w : World) (h : Wx w v l) (hl : (ws (val l)).length ≤ 4096) : Calls Tryz.prog 120 #[v] w fun e w' => (∃ u, e = .returned (.tuple #[u, .int .i64 0]) ∧ Wx w u (ws (val l))) ∧ w' = w := by
  obtain ⟨n, hn⟩ : ∃ n, n = size l := ⟨_, rfl⟩
  have HS := Lib.hid (size_any v l w h)
  rw [← hn] at HS
  have hz := size_ws h.1
  have hsl := size_le l
  have HK := Lib.hid (take_size h.1)
  rw [← hn] at hz hsl HK
  have hn2 : (n : Int) ≤ 4096 := by omega
  obtain ⟨A, c, rfl, hc, hx⟩ := h.view
  clear hn hz
  go_enter Tryz.func120, Tryz.ntmps120
  go_wp2_with (first | (refine HS.out.mono ?_; rintro e w' ⟨rfl, rfl⟩) | fail)
  go_ret2
  exact ⟨⟨_, rfl, by rw [← HK.out]; exact h.cut n n hsl (Nat.le_refl _)⟩, rfl⟩
set_option maxRecDepth 100000 in
theorem from_any (x : Nat) (w : World) (hx : x < 18446744073709551616) : Calls Tryz.prog 110 #[.int .u64 x] w fun e w' => (∃ u, e = .returned u ∧ Wx w' u (ws x)) ∧ Below w.heap.size w w' := by
  have hv : val [x] = x := by simp [val]
  have hn1 := norm_wx (.slice (some ⟨w.heap.size, 0, none⟩) 1 1) [x] (w.alloc (.cells (([x].map uv).toArray) 22 (0, 0))) ((Ar.new w 22 [x]).wx0 (fun y hy => by simp at hy; omega) rfl (by simp)) (by simp)
  rw [hv] at hn1
  have HN := Lib.hid hn1
  clear hn1
  go_enter Tryz.func110, Tryz.ntmps110
  go_wp2_with (first | (refine HN.out.mono ?_; rintro e w' ⟨⟨u, rfl, hu⟩, hb⟩) | fail)
  go_ret
  exact ⟨⟨u, rfl, hu⟩, ((Below.refl _ _).alloc (Nat.le_refl _) _).trans (hb.mono (by simp))⟩
set_option maxRecDepth 100000 in
theorem word_any (v : Value) (l : List Nat) (w : World) (h : Wx w v l) (hl : val l < 18446744073709551616) : Calls Tryz.prog 99 #[v] w fun e w' => e = .returned (.tuple #[.int .u64 (val l), .bool true]) ∧ w' = w := by
  have HS := Lib.hid (size_any v l w h)
  have hw := h.1
  obtain ⟨A, c, rfl, hc, hx⟩ := h.view
  by_cases h0 : val l = 0
  · have hz : size l = 0 := by rw [size_ws hw, h0, ws_zero]; rfl
    rw [hz] at HS
    rw [h0]
    clear hz h0
    go_enter Tryz.func99, Tryz.ntmps99
    go_wp2_with (first | (refine HS.out.mono ?_; rintro e w' ⟨rfl, rfl⟩) | fail)
    go_ret2
    exact ⟨rfl, rfl⟩
  · have hs1 : size l = 1 := by
      rw [size_ws hw, ws, if_neg h0, show val l / 18446744073709551616 = 0 by omega, ws_zero]; rfl
    have ht : l.take 1 = [val l] := by
      rw [← hs1, take_size hw, ws, if_neg h0, show val l / 18446744073709551616 = 0 by omega, ws_zero, Nat.mod_eq_of_lt hl]
    have hl0 : l[0]? = some (val l) := by
      have := congrArg (·[0]?) ht
      rwa [List.getElem?_take_of_lt (by decide)] at this
    obtain ⟨b, o, rfl, hb, hcell⟩ := hx (by intro e; subst e; simp at hl0)
    have hc0 := hcell 0 _ hl0
    rw [Nat.add_zero] at hc0
    rw [hs1] at HS
    have hpos : 0 < l.length := (List.getElem?_eq_some_iff.1 hl0).1
    clear hs1 ht hl0
    generalize val l = x at *
    go_enter Tryz.func99, Tryz.ntmps99
    go_wp2_with (first | (refine HS.out.mono ?_; rintro e w' ⟨rfl, rfl⟩) | fail)
    go_ret2
    exact ⟨rfl, rfl⟩
set_option maxRecDepth 100000 in
theorem bits_any (v : Value) (l : List Nat) (w : World) (h : Wx w v l) (hl : l.length ≤ 17592186044416) : Calls Tryz.prog 118 #[v] w fun e w' => e = .returned (.int .i64 (bl (val l))) ∧ w' = w := by
  have HS := Lib.hid (size_any v l w h)
  have hw := h.1
  have hsl := size_le l
  obtain ⟨A, c, rfl, hc, hx⟩ := h.view
  by_cases h0 : val l = 0
  · have hz : size l = 0 := by rw [size_ws hw, h0, ws_zero]; rfl
    rw [hz] at HS
    rw [h0]
    clear hz h0 hsl
    go_enter Tryz.func118, Tryz.ntmps118
    go_wp2_with (first | (refine HS.out.mono ?_; rintro e w' ⟨rfl, rfl⟩) | fail)
    go_ret
    exact ⟨rfl, rfl⟩
  · obtain ⟨x, hxt, hx0, hn⟩ := ws_top h0
    have hbl := bl_ws h0 hxt
    rw [← size_ws hw] at hxt hbl
    have hlx : l[size l - 1]? = some x := by
      have h1 : (l.take (size l))[size l - 1]? = some x := by rw [take_size hw]; exact hxt
      have h2 : size l ≠ 0 := fun e => h0 (size_zero e)
      rwa [List.getElem?_take_of_lt (by omega)] at h1
    have hx64 := hw.get hlx
    obtain ⟨m, hm⟩ : ∃ m, size l = m + 1 := ⟨size l - 1, by have : size l ≠ 0 := fun e => h0 (size_zero e); omega⟩
    rw [hm] at HS hlx hbl hsl
    rw [Nat.add_sub_cancel] at hlx hbl
    obtain ⟨b, o, rfl, hb, hcell⟩ := hx (by intro e; subst e; simp at hlx)
    have hc0 := hcell m _ hlx
    have HB := Lib.hid hbl
    have HL := fun w => Lib.hid (len_any x w hx64)
    have hxl : bl x ≤ 64 := bl_le_iff.2 hx64
    clear hm hbl hxt hn
    go_enter Tryz.func118, Tryz.ntmps118
    go_wp2_with (first | (refine HS.out.mono ?_; rintro e w' ⟨rfl, rfl⟩) | (refine (HL _).out.mono ?_; rintro e w' ⟨rfl, rfl⟩) | fail)
    go_ret
    exact ⟨by rw [HB.out]; simp, rfl⟩
end Go.Proofs.YtjdelpelnjhidaaGreatDoor.Pl
