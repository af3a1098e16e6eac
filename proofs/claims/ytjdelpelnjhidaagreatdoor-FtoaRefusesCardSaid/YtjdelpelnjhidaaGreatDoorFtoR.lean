/- ftoa.Line, walked. -/
import Derived.Test.YtjdelpelnjhidaaGreatDoorFtoL
namespace Go.Proofs.YtjdelpelnjhidaaGreatDoor.Pl
open Go.RowKit
def sv (l : List UInt8) : Value := .string (B l)
theorem sv_one (ls : List (List UInt8)) : ∀ u ∈ ls.map sv, u.oneCell' = true := fun u hu => by
  obtain ⟨x, _, rfl⟩ := List.mem_map.1 hu; rfl
theorem Tryz.infoStr : (Tryz.prog.info? 9).map (fun i => (i.zero, i.size, i.bytes)) = some (some (.string ⟨#[]⟩), 1, 16) := by kernel_rfl
/-- texts that a call laid into a row of its own -/
def OwnS (b : Nat) (w : World) (v : Value) (ls : List (List UInt8)) : Prop := w.ownsRow b 9 1 v ls.length (ls.map sv)
theorem OwnS.below {b : Nat} {w w' : World} {v : Value} {ls : List (List UInt8)} (h : OwnS b w v ls) (k : Below w.heap.size w w') : OwnS b w' v ls := by
  refine ⟨h.1, h.2.imp id ?_⟩
  rintro ⟨g, cap, cur, rfl, hb, hg, rest⟩
  exact ⟨g, cap, cur, rfl, hb, (k.block g (lt_of_heap hg)).trans hg, rest⟩
theorem make_strs (n : Nat) (w : World) (hn : n ≤ 1000000) : ∃ w1 v, (Instr.makeSlice 52 (.int .i64 0) (.int .i64 n)).run Tryz.prog w = .ok v w1 ∧ OwnS w.heap.size w1 v [] ∧ Below w.heap.size w w1 := by
  obtain ⟨i0, hi, hz0, hz1, hz2⟩ := info_parts Tryz.infoStr
  have hr := run_make (P := Tryz.prog) w 52 9 i0 (.string ⟨#[]⟩) Tryz.underlying52 hi hz0 .i64 .i64 0 n (by omega) (by omega) (by rw [hz2]; omega) (by omega)
  rw [hz1, Nat.mul_one, Int.toNat_natCast] at hr
  refine ⟨_, _, hr, ?_, (Below.refl _ _).alloc (Nat.le_refl _) _⟩
  refine ⟨rfl, .inr ⟨w.heap.size, n, _, rfl, Nat.le_refl _, World.alloc_heap_new w _, Nat.zero_le _, by unfold maxLen; omega, ?_, ?_⟩⟩
  · rw [← Array.length_toList, show (Value.string ⟨#[]⟩).cells = #[Value.string ⟨#[]⟩] from rfl, toList_madeCells_one, List.length_replicate, Nat.mul_one]
  · simp
theorem one_str (w : World) (x : List UInt8) : OwnS w.heap.size (w.alloc (.cells #[.string (B x)] 9)) (.slice (some ⟨w.heap.size, 0, none⟩) 1 1) [x] :=
  ⟨by simp, .inr ⟨w.heap.size, 1, #[.string (B x)], rfl, Nat.le_refl _, World.alloc_heap_new w _, Nat.le_refl _, by unfold maxLen; omega, by simp, by simp [sv]⟩⟩
/-- append of one text -/
theorem list_append_str {w : World} {ops : Array Oper} {rest : List Oper} {o : Oper} {a : Act} {Q : Exit → Act → World → Prop} (hgd : o.guard = none) (s x : Operand)
    (ho : o.op = .call { callee := .builtin .append, args := #[s, x], argTypes := #[52, 52] }) {b g2 : Nat} (v : Value) {ls : List (List UInt8)} {m : List UInt8} (hs : a.eval s = v) (hx : a.eval x = .slice (some ⟨g2, 0, none⟩) 1 1) (hv : OwnS b w v ls) (hc : w.cell? ⟨g2, 0, none⟩ = some (.string (B m))) (hl : ls.length ≤ 1000000) (hb : b ≤ w.heap.size)
    (h : ∀ r w', OwnS b w' r (ls ++ [m]) → w.grownBy w' v.ownBlock → (∀ g, r.ownBlock = some g → v.ownBlock = some g ∨ g = w.heap.size) → wpList Tryz.prog ops Q rest (a.put o.dst r) w') :
    wpList Tryz.prog ops Q (o :: rest) a w := by
  obtain ⟨i0, hi, hz0, hz1, hz2⟩ := info_parts Tryz.infoStr
  refine wpList_append_lies w hgd s x 52 ho b 9 i0 (.string ⟨#[]⟩) 1 16 Tryz.underlying52 hi hz0 hz1 hz2 rfl (by decide) v ls.length (ls.map sv) hs hv ⟨g2, 0, none⟩ 1 1 [sv m] hx (by simp) (fun j u hj => ?_) (sv_one [m]) (by decide) (by unfold maxLen; omega) (by omega) hb w.heap.size rfl ?_
  · cases j with
    | zero => rw [addw0]; simp only [List.getElem?_cons_zero, Option.some.injEq] at hj; rw [← hj]; exact hc
    | succ j => simp at hj
  · intro g cap w' h2 h3 h4 h5
    refine h _ w' ?_ h3 (fun g' hb => by cases hb; exact h4)
    unfold OwnS
    rw [List.map_append, List.length_append]; exact h2
theorem joinTail_le (ls : List (List UInt8)) (hs : ∀ x ∈ ls, x.length ≤ 100) : (Lib.joinTail [32] ls).length ≤ 101 * ls.length := by
  induction ls with
  | nil => exact Nat.zero_le _
  | cons x r ih =>
    have h1 := ih (fun y hy => hs y (List.mem_cons_of_mem _ hy))
    have h2 := hs x (List.mem_cons_self ..)
    unfold Lib.joinTail at h1 ⊢
    rw [List.map_cons, List.flatten_cons, List.length_append, List.length_append, List.length_cons, List.length_cons, List.length_nil]
    omega
theorem join_le (ls : List (List UInt8)) (hs : ∀ x ∈ ls, x.length ≤ 100) : (Lib.join ls [32]).length ≤ 101 * ls.length := by
  cases ls with
  | nil => exact Nat.zero_le _
  | cons x r =>
    rw [Lib.join_cons, List.length_append, List.length_cons]
    have h1 := joinTail_le r (fun y hy => hs y (List.mem_cons_of_mem _ hy))
    have h2 := hs x (List.mem_cons_self ..)
    omega
theorem join_own {b : Nat} {w : World} {v : Value} {ls : List (List UInt8)} (h : OwnS b w v ls) (hl : ls.length ≤ 1000) (hs : ∀ x ∈ ls, x.length ≤ 100) : Calls Tryz.prog 29 #[v, .string ⟨#[32]⟩] w fun e w' => e = .returned (.string (B (Lib.join ls [32]))) ∧ Below w.heap.size w w' := by
  by_cases h0 : ls = []
  · subst h0
    have hn : ∀ A c, Calls Tryz.prog 29 #[.slice A 0 c, .string ⟨#[32]⟩] w fun e w' => e = .returned (.string (B (Lib.join [] [32]))) ∧ Below w.heap.size w w' := fun A c => by
      refine (Tryz.strings_Join_none A c ⟨#[32]⟩ w).mono ?_
      rintro e w' ⟨rfl, rfl⟩
      exact ⟨rfl, Below.refl _ _⟩
    rcases h.2 with ⟨rfl, _⟩ | ⟨g, cap, cur, rfl, _⟩
    · exact hn _ _
    · exact hn _ _
  · have hc := fun {g : Nat} (hg : v.ownBlock = some g) => World.ownsRow.cells h hg
    have hlt := World.ownsRow.lt h
    rcases h.2 with ⟨_, hx⟩ | ⟨g, cap, cur, rfl, hb, hg, hnc, _⟩
    · exact absurd (List.eq_nil_of_length_eq_zero hx) h0
    · have hm : (ls.map B).map (fun s => s.data.toList) = ls := by
        rw [List.map_map]
        conv => rhs; rw [← List.map_id ls]
        refine List.map_congr_left fun x _ => ?_
        show (B x).data.toList = x
        simp [B]
      have hj := Tryz.strings_Join g 0 cap (ls.map B) ⟨#[32]⟩ w (fun j x hx => by
        have h1 : (ls.map sv)[j]? = some (.string x) := by
          rw [List.getElem?_map] at hx ⊢
          cases hls : ls[j]? with
          | none => rw [hls] at hx; cases hx
          | some y => rw [hls] at hx; simp only [Option.map_some, Option.some.injEq] at hx ⊢; rw [← hx]; rfl
        have := hc (g := g) rfl j _ h1
        rw [addw0] at this
        rw [Nat.zero_add]
        exact this) (hlt g rfl).2 (by rw [List.length_map]; omega) (by rw [List.length_map]; exact hnc) (by
          have := join_le ls hs
          rw [hm]
          show (Lib.join ls [32]).length ≤ _
          omega)
      rw [List.length_map, hm] at hj
      exact hj
/-- a line of texts -/
noncomputable def lineT (l : List Nat) (mode : Nat) : List UInt8 := Lib.join (l.map fun b => textT b mode) [32]
def finA (l : List Nat) : Prop := ∀ b ∈ l, Fin64 b
set_option maxRecDepth 100000 in
set_option maxHeartbeats 8000000 in
theorem line_mode (v : Value) (m : Int) (w : World) (h : ¬ (1 ≤ m ∧ m < 4)) : Calls Tryz.prog 18 #[v, .int .i64 m] w fun e w' => e = .returned (.tuple #[.string ⟨#[]⟩, .int .i64 140]) ∧ w' = w := by
  have hk := Lib.hid (known_no m w h)
  go_enter Tryz.func18, Tryz.ntmps18
  go_wp2_with (first | (go_at_call 20; refine hk.out.mono ?_; rintro e w1 ⟨rfl, hw1⟩; subst hw1) | fail)
  go_ret2
  exact ⟨rfl, rfl⟩
set_option maxRecDepth 100000 in
set_option maxHeartbeats 8000000 in
theorem line_any (v : Value) (l : List Nat) (mode : Nat) (w : World) (hv : Wx w v l) (hl : l.length ≤ 1000) (hf : finA l) (h : 1 ≤ mode ∧ mode < 4) (hS : Std w) : Calls Tryz.prog 18 #[v, .int .i64 mode] w fun e w' => e = .returned (.tuple #[.string (B (lineT l mode)), .int .i64 0]) ∧ Below w.heap.size w w' := by
  have hk := Lib.hid (known_yes mode w (by omega) (by omega))
  have hsg := fun b w (hb : Fin64 b) (hS : Std w) => Lib.hid (signed_any b mode w hb.lt hb.fin h hS)
  obtain ⟨w1, v1, hmk, ho, hb1⟩ := make_strs l.length w (by omega)
  obtain ⟨A, c, rfl, hlc, hx⟩ := hv.view
  have HV := Lib.hid hv
  go_enter Tryz.func18, Tryz.ntmps18
  go_wp2_with (first | (go_at_call 20; refine hk.out.mono ?_; rintro e w9 ⟨rfl, hw9⟩; rw [hw9]; clear hw9) | fail)
  go_loopw [6, 17] (fun ov i wr => ∃ n : Nat, i = .int .i64 n ∧ n ≤ l.length ∧ OwnS w.heap.size wr ov ((l.take n).map fun b => textT b mode) ∧ Below w.heap.size w wr) (fun _ i _ => ((l.length : Int) - intOf i).toNat)
  case atStart => exact ⟨0, rfl, Nat.zero_le _, ho, hb1⟩
  case round =>
    clear ho hb1 hmk hk
    obtain ⟨n, rfl, hn, hOw, hBr⟩ := hrel
    have hSr := hS.below hBr
    by_cases hlt : n < l.length
    · have hlt2 : (n : Int) < l.length := by omega
      obtain ⟨x, hxn⟩ : ∃ x, l[n]? = some x := ⟨_, List.getElem?_eq_getElem hlt⟩
      obtain ⟨b, o, rfl, hb, hcell⟩ := hx (by intro e; subst e; simp at hxn)
      have hc := (hBr.cell (p := ⟨b, o + n, none⟩) hb).trans (hcell n x hxn)
      have hfx : Fin64 x := hf x (List.mem_of_getElem? hxn)
      have hcl := fun w => Lib.hid (cls_any x w hfx.lt)
      have hcf := cls_fin hfx.fin
      obtain ⟨k, hkk⟩ : ∃ k, k = cls x := ⟨_, rfl⟩
      rw [← hkk] at hcl hcf
      have HBR := Lib.hid hBr
      have HOW := Lib.hid hOw
      have HXN := Lib.hid hxn
      clear hkk hBr hOw hx hcell hxn
      go_wp2_with (first
        | (go_at_call 21; refine (hcl _).out.mono ?_; rintro e w2 ⟨rfl, hw2⟩; rw [← hw2]; clear hw2)
        | (go_at_call 22; refine (hsg _ _ hfx hSr).out.mono ?_; rintro e w3 ⟨⟨rfl, _⟩, hbz⟩)
        | (at_builtin; go_must (refine list_append_str rfl (.tmp 24) (.tmp 28) rfl (b := w.heap.size) (g2 := w3.heap.size) u6 (ls := (l.take n).map fun b => textT b mode) (m := textT x mode) rfl rfl ((HOW.out.below hbz).below (below_new w3 _)) (by rw [World.cell?_alloc_new]; rfl) (by rw [List.length_map, List.length_take]; omega) (Nat.le_trans HBR.out.size (Nat.le_trans hbz.size (below_new w3 _).size)) ?_; intro r w5 ho5 hg5 hr5))
        | fail)
      have hba := (HBR.out.trans (hbz.mono HBR.out.size)).trans ((below_new w3 (Obj.cells #[Value.string (B (textT x mode))] 9)).mono (Nat.le_trans HBR.out.size hbz.size))
      refine ⟨⟨n + 1, by rw [Int.natCast_add]; rfl, hlt, ?_, hba.grown hg5 hba.size (fun g hg => (World.ownsRow.lt HOW.out g hg).1)⟩, ?_⟩
      · rw [List.take_add_one, HXN.out, List.map_append]
        exact ho5
      · show ((l.length : Int) - ((n : Int) + 1)).toNat < ((l.length : Int) - (n : Int)).toNat
        omega
    · have hlt2 : ¬ (n : Int) < l.length := by omega
      obtain rfl : n = l.length := by omega
      rw [List.take_length] at hOw
      have HJ := Lib.hid (join_own hOw (by rw [List.length_map]; exact hl) (fun y hy => by
        obtain ⟨x, hx, rfl⟩ := List.mem_map.1 hy
        exact Nat.le_trans (textT_len mode (hf x hx).fin) (by decide)))
      clear hx
      go_wp2_with (first
        | (go_at_call 29; refine HJ.out.mono ?_; rintro e w3 ⟨rfl, hbz⟩)
        | fail)
      go_ret2
      exact ⟨rfl, hBr.trans (hbz.mono hBr.size)⟩
set_option maxRecDepth 100000 in
set_option maxHeartbeats 8000000 in
theorem line_bad (v : Value) (l : List Nat) (q y mode : Nat) (w : World) (hv : Wx w v l) (hl : l.length ≤ 1000) (hq : l[q]? = some y) (hy : y < 18446744073709551616) (hyc : 3 ≤ cls y) (hf : ∀ n x, n < q → l[n]? = some x → Fin64 x) (h : 1 ≤ mode ∧ mode < 4) (hS : Std w) : Calls Tryz.prog 18 #[v, .int .i64 mode] w fun e w' => e = .returned (.tuple #[.string ⟨#[]⟩, .int .i64 60]) ∧ Below w.heap.size w w' := by
  have hk := Lib.hid (known_yes mode w (by omega) (by omega))
  have hsg := fun b w (hb : Fin64 b) (hS : Std w) => Lib.hid (signed_any b mode w hb.lt hb.fin h hS)
  obtain ⟨w1, v1, hmk, ho, hb1⟩ := make_strs l.length w (by omega)
  obtain ⟨A, c, rfl, hlc, hx⟩ := hv.view
  have HV := Lib.hid hv
  go_enter Tryz.func18, Tryz.ntmps18
  go_wp2_with (first | (go_at_call 20; refine hk.out.mono ?_; rintro e w9 ⟨rfl, hw9⟩; rw [hw9]; clear hw9) | fail)
  go_loopw [6, 17] (fun ov i wr => ∃ n : Nat, i = .int .i64 n ∧ n ≤ q ∧ OwnS w.heap.size wr ov ((l.take n).map fun b => textT b mode) ∧ Below w.heap.size w wr) (fun _ i _ => ((l.length : Int) - intOf i).toNat)
  case atStart => exact ⟨0, rfl, Nat.zero_le _, ho, hb1⟩
  case round =>
    clear ho hb1 hmk hk
    obtain ⟨n, rfl, hn, hOw, hBr⟩ := hrel
    have hSr := hS.below hBr
    have hql : q < l.length := (List.getElem?_eq_some_iff.1 hq).1
    by_cases hlt : n < q
    · have hlt2 : (n : Int) < l.length := by omega
      obtain ⟨x, hxn⟩ : ∃ x, l[n]? = some x := ⟨_, List.getElem?_eq_getElem (by omega)⟩
      obtain ⟨b, o, rfl, hb, hcell⟩ := hx (by intro e; subst e; simp at hxn)
      have hc := (hBr.cell (p := ⟨b, o + n, none⟩) hb).trans (hcell n x hxn)
      have hfx : Fin64 x := hf n x hlt hxn
      have hcl := fun w => Lib.hid (cls_any x w hfx.lt)
      have hcf := cls_fin hfx.fin
      obtain ⟨k, hkk⟩ : ∃ k, k = cls x := ⟨_, rfl⟩
      rw [← hkk] at hcl hcf
      have HBR := Lib.hid hBr
      have HOW := Lib.hid hOw
      have HXN := Lib.hid hxn
      clear hkk hBr hOw hx hcell hxn
      go_wp2_with (first
        | (go_at_call 21; refine (hcl _).out.mono ?_; rintro e w2 ⟨rfl, hw2⟩; rw [← hw2]; clear hw2)
        | (go_at_call 22; refine (hsg _ _ hfx hSr).out.mono ?_; rintro e w3 ⟨⟨rfl, _⟩, hbz⟩)
        | (at_builtin; go_must (refine list_append_str rfl (.tmp 24) (.tmp 28) rfl (b := w.heap.size) (g2 := w3.heap.size) u6 (ls := (l.take n).map fun b => textT b mode) (m := textT x mode) rfl rfl ((HOW.out.below hbz).below (below_new w3 _)) (by rw [World.cell?_alloc_new]; rfl) (by rw [List.length_map, List.length_take]; omega) (Nat.le_trans HBR.out.size (Nat.le_trans hbz.size (below_new w3 _).size)) ?_; intro r w5 ho5 hg5 hr5))
        | fail)
      have hba := (HBR.out.trans (hbz.mono HBR.out.size)).trans ((below_new w3 (Obj.cells #[Value.string (B (textT x mode))] 9)).mono (Nat.le_trans HBR.out.size hbz.size))
      refine ⟨⟨n + 1, by rw [Int.natCast_add]; rfl, hlt, ?_, hba.grown hg5 hba.size (fun g hg => (World.ownsRow.lt HOW.out g hg).1)⟩, ?_⟩
      · rw [List.take_add_one, HXN.out, List.map_append]
        exact ho5
      · show ((l.length : Int) - ((n : Int) + 1)).toNat < ((l.length : Int) - (n : Int)).toNat
        omega
    · obtain rfl : n = q := by omega
      have hlt2 : (n : Int) < l.length := by omega
      obtain ⟨b, o, rfl, hb, hcell⟩ := hx (by intro e; subst e; simp at hq)
      have hc := (hBr.cell (p := ⟨b, o + n, none⟩) hb).trans (hcell n y hq)
      have hcl := fun w => Lib.hid (cls_any y w hy)
      obtain ⟨k, hkk⟩ : ∃ k, k = cls y := ⟨_, rfl⟩
      rw [← hkk] at hcl hyc
      have HBR := Lib.hid hBr
      clear hkk hBr hOw hx hcell hq
      go_wp2_with (first
        | (go_at_call 21; refine (hcl _).out.mono ?_; rintro e w2 ⟨rfl, hw2⟩; rw [← hw2]; clear hw2)
        | fail)
      go_ret2
      exact ⟨rfl, HBR.out⟩
end Go.Proofs.YtjdelpelnjhidaaGreatDoor.Pl
