/- plumbref17's geometry, walked. -/
import Derived.Test.YtlffgepnhhnadaaGreatDoorRfC
import Derived.Test.YtlffgepnhhnadaaGreatDoorRec
namespace Go.Proofs.YtlffgepnhhnadaaGreatDoor.Pl
open Go.RowKit

/-- where the four kinds meet: g in its box gb -/
def GeoW (B : Nat) (w : World) (wb : Nat) (v : Value) (l : List UInt8) (deep : Int) (R : Except PErr (G × Nat)) (kd gb : Nat) (W : World) : Prop :=
  ∃ x a er oc v1 v2 v3, IsG (fun b => AptW W wb b ∧ gb < b) W x [.int .i64 kd, v1, v2, v3] ∧ W.heap[gb]? = some (.cells #[.int .i64 kd, v1, v2, v3] 27 (0, 0)) ∧
    IsWk B W wb v l a deep er oc ∧ StepW B wb w W ∧ Gives R x a er
/-- what the loop over rings keeps -/
def RingsW (B : Nat) (w8 : World) (wb gb : Nat) (v : Value) (l : List UInt8) (deep : Int) (lt : Bool) (R : Except PErr (List (List Pt) × Nat)) (n k : Nat) (W : World) : Prop :=
  ∃ (acc : List (List Pt)) (a : Nat) (er : Option PErr) (oc : Nat) (vs : List Value) (sv : Value), acc.length = k ∧ loopL R (ringR l lt) (n - k) acc a er ∧
    GrowW B w8 wb gb v l deep a er oc [.int .i64 3, .slice none 0 0, .slice none 0 0, .slice none 0 0] 2 23 1 k vs sv W ∧ Each (Pts (GrowOkW W wb gb sv) W) vs acc
/-- what the loop over parts keeps -/
def PartsW (B : Nat) (w8 : World) (wb gb : Nat) (v : Value) (l : List UInt8) (deep : Int) (f : Nat) (level kd : Int) (R : Except PErr (List G × Nat)) (n k : Nat) (W : World) : Prop :=
  ∃ (acc : List G) (a : Nat) (er : Option PErr) (oc : Nat) (vs : List Value) (sv : Value), acc.length = k ∧ loopL R (treeR l deep f level kd) (n - k) acc a er ∧
    GrowW B w8 wb gb v l deep a er oc [.int .i64 kd, .slice none 0 0, .slice none 0 0, .slice none 0 0] 3 27 4 k vs sv W ∧ IsGs (GrowOkW W wb gb sv) W acc vs

set_option maxRecDepth 100000 in
set_option maxHeartbeats 4000000 in
theorem geo_any : ∀ (f : Nat) (B wb at_ oc : Nat) (v : Value) (l : List UInt8) (deep level home : Int) (w : World), IsWk B w wb v l at_ deep none oc → B ≤ w.heap.size → deep ≤ 256 → 0 ≤ level → level ≤ 257 → level + f = 258 → (home = 0 ∨ 4 ≤ home ∧ home ≤ 7) →
    Calls Tryz.prog 59 #[.pointer (some ⟨wb, 0, none⟩), .int .i64 home, .int .i64 level] w
      (WPost B w wb v l deep (fun x u w' => ∃ cs, u = .agg cs.toArray ∧ IsG (NewW w w' wb) w' x cs) (treeR l deep f level home at_)) := by
  intro f
  induction f with
  | zero => intro _ _ _ _ _ _ _ _ _ _ _ _ hd h0 h7 hf; omega
  | succ f ih =>
  intro B wb at_ oc v l deep level home w h hB hd h0 h7 hf hh
  have hdl := h.len
  obtain ⟨w1, hw1⟩ : ∃ w1, w1 = w.alloc (.cells #[.int .i64 0, .slice none 0 0, .slice none 0 0, .slice none 0 0] 27) := ⟨_, rfl⟩
  have hb1 : Below w.heap.size w w1 := by subst hw1; exact (Below.refl _ w).alloc (Nat.le_refl _) _
  have hz1 : w1.heap[w.heap.size]? = some (.cells #[.int .i64 0, .slice none 0 0, .slice none 0 0, .slice none 0 0] 27 (0, 0)) := by subst hw1; exact World.alloc_heap_new _ _
  have h1 := h.below hb1
  have s1 := StepW.made h.lt hb1 hB
  have a1 := h.apt hb1 _ (Nat.le_refl _) (lt_of_heap hz1)
  have c1 := h1.c1
  have H := Lib.hid (And.intro h (And.intro s1 (And.intro a1 (And.intro hz1 h1))))
  have IH := Lib.hid ih
  -- the result's cells, in every world behind
  have HZ : Hid (∀ V, StepW B wb w1 V → (V.cell? ⟨w.heap.size, 0, none⟩ = some (.int .i64 0) ∧ V.cell? ⟨w.heap.size, 1, none⟩ = some (.slice none 0 0) ∧ V.cell? ⟨w.heap.size, 2, none⟩ = some (.slice none 0 0) ∧ V.cell? ⟨w.heap.size, 3, none⟩ = some (.slice none 0 0)) ∧
      V.frozen? ⟨w.heap.size, 0, none⟩ = false ∧ V.frozen? ⟨w.heap.size, 1, none⟩ = false ∧ V.frozen? ⟨w.heap.size, 2, none⟩ = false ∧ V.frozen? ⟨w.heap.size, 3, none⟩ = false) := Lib.hid fun V hs => by
    have k1 := (hs.1 _ H.out.2.2.1).1.trans H.out.2.2.2.1
    exact ⟨⟨cell_row (cs := [_, _, _, _]) (j := 0) k1 rfl, cell_row (cs := [_, _, _, _]) (j := 1) k1 rfl, cell_row (cs := [_, _, _, _]) (j := 2) k1 rfl, cell_row (cs := [_, _, _, _]) (j := 3) k1 rfl⟩, frozen_row (cs := [_, _, _, _]) k1 0, frozen_row (cs := [_, _, _, _]) k1 1, frozen_row (cs := [_, _, _, _]) k1 2, frozen_row (cs := [_, _, _, _]) k1 3⟩
  -- the end of a way that found an error
  have HE : Hid (∀ (V W : World) (er : PErr) (a oc : Nat), IsWk B V wb v l a deep (some er) oc → StepW B wb w1 V → treeR l deep (f + 1) level home at_ = .error er →
      W = (((V.setCell ⟨w.heap.size, 0, none⟩ (.int .i64 0)).setCell ⟨w.heap.size, 1, none⟩ (.slice none 0 0)).setCell ⟨w.heap.size, 2, none⟩ (.slice none 0 0)).setCell ⟨w.heap.size, 3, none⟩ (.slice none 0 0) →
      W.heap[w.heap.size]? = some (.cells #[.int .i64 0, .slice none 0 0, .slice none 0 0, .slice none 0 0] 27 (0, 0)) ∧
      WPost B w wb v l deep (fun x u w' => ∃ cs, u = .agg cs.toArray ∧ IsG (NewW w w' wb) w' x cs) (treeR l deep (f + 1) level home at_) (.returned (.agg #[.int .i64 0, .slice none 0 0, .slice none 0 0, .slice none 0 0])) W) := Lib.hid fun V W er a oc hV hs hr hW => by
    obtain ⟨k1, k2⟩ := hs.1 _ H.out.2.2.1
    obtain ⟨q1, q2, q3, q4⟩ := four_set (k1.trans H.out.2.2.2.1) _ _ _ _ hW
    have hg : V.grownBy W (some w.heap.size) := by
      have hb := q4 w.heap.size V (Nat.le_refl _)
      rw [hW]
      exact grown_trans (grown_trans (grown_trans (grownBy_set V ⟨w.heap.size, 0, none⟩ _) (grownBy_set _ ⟨w.heap.size, 1, none⟩ _)) (grownBy_set _ ⟨w.heap.size, 2, none⟩ _)) (grownBy_set _ ⟨w.heap.size, 3, none⟩ _)
    obtain ⟨o1, o2, _, _⟩ := IsWk.other H.out.1 (H.out.2.1.trans hs) hV (some w.heap.size) hg (fun g hg => by cases hg; exact ⟨Nat.le_refl _, k2⟩) hB
    exact ⟨q1, .mk 0 [] [] [], _, _, some er, _, rfl, ⟨_, rfl, zeroG _ _⟩, o1, o2, by rw [hr]⟩
  clear ih
  by_cases k1 : l.length - at_ < 1
  · have HRR : Hid (treeR l deep (f + 1) level home at_ = .error ((at_ : Int), 160)) := Lib.hid (treeR_err (by simp only [headR]; rw [dif_pos k1]))
    have HN := Lib.hid (num_short 1 false w1 h1 k1)
    clear h h1 s1 a1 hz1 hb1 k1
    go_enter Tryz.func59, Tryz.ntmps59
    go_upto_region 1 with (fail)
    rw [← hw1]
    clear hw1
    go_wp2_with fail
    refine HN.out.mono ?_
    rintro e w2 ⟨rfl, h2, s2⟩
    have c3 : w2.cell? ⟨wb, 3, none⟩ = some (.int .i64 160) := h2.c3
    have H2 := Lib.hid (And.intro h2 s2)
    clear h2 s2
    go_wp2_with fail
    refine (num_dead 4 _ w2 H2.out.1).mono ?_
    rintro e w' ⟨rfl, rfl⟩
    obtain ⟨⟨z0, z1, z2, z3⟩, g0, g1, g2, g3⟩ := HZ.out _ H2.out.2
    go_wp2
    obtain ⟨q1, q2⟩ := HE.out _ _ _ _ _ H2.out.1 H2.out.2 HRR.out rfl
    refine bodyPost_ret (v := .agg #[.int .i64 0, .slice none 0 0, .slice none 0 0, .slice none 0 0]) ?_ rfl q2
    refine results_cell_row (p := 6) (ty := 27) Tryz.results59 _ _ w.heap.size _ _ _ _ ?_ q1 Tryz.underlying27 rfl Tryz.infoG4
    rfl
  have hl1 : at_ < l.length := by omega
  have hob : wd l at_ 1 false = l[at_].toNat := decB_one l at_ hl1 false
  have hhead := headR_eq l deep at_ level home hl1
  have HN := Lib.hid (num_got 1 false w1 h1 (by omega) (by omega))
  have hlto : l[at_].toNat < 256 := l[at_].toNat_lt
  rw [hob] at HN
  generalize l[at_].toNat = ob at HN hhead hlto
  have HHD := Lib.hid hhead
  have hole := h.ole
  clear hob hhead h h1 s1 a1 hz1 hb1 k1
  go_enter Tryz.func59, Tryz.ntmps59
  go_upto_region 1 with (fail)
  rw [← hw1]
  clear hw1
  go_wp2_with fail
  refine HN.out.mono ?_
  rintro e w2 ⟨rfl, h2, s2⟩
  have c3 : w2.cell? ⟨wb, 3, none⟩ = some (.int .i64 0) := h2.c3
  have H2 := Lib.hid (And.intro h2 s2)
  clear h2 s2 HN
  by_cases k2 : 1 < ob
  · have HRR : Hid (treeR l deep (f + 1) level home at_ = .error ((at_ : Int), 170)) := Lib.hid (treeR_err (by rw [HHD.out, if_pos k2]))
    go_wp2_with fail
    refine (fault_any (at_ : Int) 170 w2 H2.out.1 (by decide)).mono ?_
    rintro e w3 ⟨rfl, h3, s3⟩
    have c3 : w3.cell? ⟨wb, 3, none⟩ = some (.int .i64 170) := h3.c3
    have H3 := Lib.hid (And.intro h3 (H2.out.2.trans s3))
    clear h3 s3
    go_wp2_with fail
    refine (num_dead 4 _ w3 H3.out.1).mono ?_
    rintro e w' ⟨rfl, rfl⟩
    obtain ⟨⟨z0, z1, z2, z3⟩, g0, g1, g2, g3⟩ := HZ.out _ H3.out.2
    go_wp2
    obtain ⟨q1, q2⟩ := HE.out _ _ _ _ _ H3.out.1 H3.out.2 HRR.out rfl
    refine bodyPost_ret (v := .agg #[.int .i64 0, .slice none 0 0, .slice none 0 0, .slice none 0 0]) ?_ rfl q2
    refine results_cell_row (p := 6) (ty := 27) Tryz.results59 _ _ w.heap.size _ _ _ _ ?_ q1 Tryz.underlying27 rfl Tryz.infoG4
    rfl
  obtain ⟨lt, hlt⟩ : ∃ lt : Bool, (ob == 1) = lt := ⟨_, rfl⟩
  have hbi : ((ob : Int) == 1) = lt := by rw [← hlt, Bool.eq_iff_iff]; simp; omega
  rw [hlt] at HHD
  clear hlt
  by_cases k3 : l.length - (at_ + 1) < 4
  · have HRR : Hid (treeR l deep (f + 1) level home at_ = .error ((at_ : Int) + 1, 160)) := Lib.hid (treeR_err (by rw [HHD.out, if_neg k2, if_pos k3]))
    have HN := Lib.hid (num_short 4 lt w2 H2.out.1 k3)
    go_wp2_with fail
    refine HN.out.mono ?_
    rintro e w3 ⟨rfl, h3, s3⟩
    have c3 : w3.cell? ⟨wb, 3, none⟩ = some (.int .i64 160) := h3.c3
    have H3 := Lib.hid (And.intro h3 (H2.out.2.trans s3))
    clear h3 s3
    obtain ⟨⟨z0, z1, z2, z3⟩, g0, g1, g2, g3⟩ := HZ.out _ H3.out.2
    go_wp2
    obtain ⟨q1, q2⟩ := HE.out _ _ _ _ _ H3.out.1 H3.out.2 HRR.out rfl
    refine bodyPost_ret (v := .agg #[.int .i64 0, .slice none 0 0, .slice none 0 0, .slice none 0 0]) ?_ rfl q2
    refine results_cell_row (p := 6) (ty := 27) Tryz.results59 _ _ w.heap.size _ _ _ _ ?_ q1 Tryz.underlying27 rfl Tryz.infoG4
    rfl
  have HN := Lib.hid (num_got 4 lt w2 H2.out.1 (by omega) (by omega))
  have hkl := wd_lt l (at_ + 1) 4 lt
  obtain ⟨kd, hkd⟩ : ∃ kd, wd l (at_ + 1) 4 lt = kd := ⟨_, rfl⟩
  rw [hkd] at HN hkl
  rw [hkd, if_neg k2, if_neg k3] at HHD
  clear hkd k3
  have hwk : IntKind.i64.wrap (kd : Int) = kd := by rw [IntKind.wrap_i64]; omega
  go_wp2_with fail
  refine HN.out.mono ?_
  rintro e w3 ⟨rfl, h3, s3⟩
  have c3 : w3.cell? ⟨wb, 3, none⟩ = some (.int .i64 0) := h3.c3
  have c2 := h3.c2
  have H3 := Lib.hid (And.intro h3 (H2.out.2.trans s3))
  clear h3 s3 HN
  have hwa : IntKind.i64.wrap ((at_ : Int) + 1) = (at_ : Int) + 1 := by rw [IntKind.wrap_i64]; omega
  by_cases k4 : kd < 1 ∨ 7 < kd
  · have HRR : Hid (treeR l deep (f + 1) level home at_ = .error ((at_ : Int) + 1, 171)) := Lib.hid (treeR_err (by rw [HHD.out, if_pos k4]))
    have k4' : (kd : Int) < 1 ∨ (¬ (kd : Int) < 1 ∧ 7 < (kd : Int)) := by omega
    rcases k4' with k5 | ⟨k5, k6⟩
    · go_wp2_with fail
      refine (fault_any ((at_ : Int) + 1) 171 w3 H3.out.1 (by decide)).mono ?_
      rintro e w4 ⟨rfl, h4, s4⟩
      have c3 : w4.cell? ⟨wb, 3, none⟩ = some (.int .i64 171) := h4.c3
      have H4 := Lib.hid (And.intro h4 (H3.out.2.trans s4))
      clear h4 s4
      obtain ⟨⟨z0, z1, z2, z3⟩, g0, g1, g2, g3⟩ := HZ.out _ H4.out.2
      go_wp2
      obtain ⟨q1, q2⟩ := HE.out _ _ _ _ _ H4.out.1 H4.out.2 HRR.out rfl
      refine bodyPost_ret (v := .agg #[.int .i64 0, .slice none 0 0, .slice none 0 0, .slice none 0 0]) ?_ rfl q2
      refine results_cell_row (p := 6) (ty := 27) Tryz.results59 _ _ w.heap.size _ _ _ _ ?_ q1 Tryz.underlying27 rfl Tryz.infoG4
      rfl
    · go_wp2_with fail
      refine (fault_any ((at_ : Int) + 1) 171 w3 H3.out.1 (by decide)).mono ?_
      rintro e w4 ⟨rfl, h4, s4⟩
      have c3 : w4.cell? ⟨wb, 3, none⟩ = some (.int .i64 171) := h4.c3
      have H4 := Lib.hid (And.intro h4 (H3.out.2.trans s4))
      clear h4 s4
      obtain ⟨⟨z0, z1, z2, z3⟩, g0, g1, g2, g3⟩ := HZ.out _ H4.out.2
      go_wp2
      obtain ⟨q1, q2⟩ := HE.out _ _ _ _ _ H4.out.1 H4.out.2 HRR.out rfl
      refine bodyPost_ret (v := .agg #[.int .i64 0, .slice none 0 0, .slice none 0 0, .slice none 0 0]) ?_ rfl q2
      refine results_cell_row (p := 6) (ty := 27) Tryz.results59 _ _ w.heap.size _ _ _ _ ?_ q1 Tryz.underlying27 rfl Tryz.infoG4
      rfl
  rw [if_neg k4] at HHD
  have k5 : ¬ (kd : Int) < 1 := by omega
  have k6 : ¬ 7 < (kd : Int) := by omega
  have HM := Lib.hid (memb_any home kd w3 hh)
  obtain ⟨mb, hmb⟩ : ∃ mb, memberB home kd = mb := ⟨_, rfl⟩
  rw [hmb] at HHD HM
  clear hmb
  cases mb
  · have HRR : Hid (treeR l deep (f + 1) level home at_ = .error ((at_ : Int) + 1, 172)) := Lib.hid (treeR_err (by rw [HHD.out, if_pos rfl]))
    go_wp2_with fail
    refine HM.out.mono ?_
    rintro e w' ⟨rfl, rfl⟩
    go_wp2_with fail
    refine (fault_any ((at_ : Int) + 1) 172 w3 H3.out.1 (by decide)).mono ?_
    rintro e w4 ⟨rfl, h4, s4⟩
    have c3 : w4.cell? ⟨wb, 3, none⟩ = some (.int .i64 172) := h4.c3
    have H4 := Lib.hid (And.intro h4 (H3.out.2.trans s4))
    clear h4 s4
    obtain ⟨⟨z0, z1, z2, z3⟩, g0, g1, g2, g3⟩ := HZ.out _ H4.out.2
    go_wp2
    obtain ⟨q1, q2⟩ := HE.out _ _ _ _ _ H4.out.1 H4.out.2 HRR.out rfl
    refine bodyPost_ret (v := .agg #[.int .i64 0, .slice none 0 0, .slice none 0 0, .slice none 0 0]) ?_ rfl q2
    refine results_cell_row (p := 6) (ty := 27) Tryz.results59 _ _ w.heap.size _ _ _ _ ?_ q1 Tryz.underlying27 rfl Tryz.infoG4
    rfl
  rw [if_neg (by simp)] at HHD
  by_cases k7 : deep < level
  · have HRR : Hid (treeR l deep (f + 1) level home at_ = .error ((at_ : Int), 191)) := Lib.hid (treeR_err (by rw [HHD.out, if_pos k7]))
    go_wp2_with fail
    refine HM.out.mono ?_
    rintro e w' ⟨rfl, rfl⟩
    go_wp2_with fail
    refine (fault_any (at_ : Int) 191 w3 H3.out.1 (by decide)).mono ?_
    rintro e w4 ⟨rfl, h4, s4⟩
    have c3 : w4.cell? ⟨wb, 3, none⟩ = some (.int .i64 191) := h4.c3
    have H4 := Lib.hid (And.intro h4 (H3.out.2.trans s4))
    clear h4 s4
    obtain ⟨⟨z0, z1, z2, z3⟩, g0, g1, g2, g3⟩ := HZ.out _ H4.out.2
    go_wp2
    obtain ⟨q1, q2⟩ := HE.out _ _ _ _ _ H4.out.1 H4.out.2 HRR.out rfl
    refine bodyPost_ret (v := .agg #[.int .i64 0, .slice none 0 0, .slice none 0 0, .slice none 0 0]) ?_ rfl q2
    refine results_cell_row (p := 6) (ty := 27) Tryz.results59 _ _ w.heap.size _ _ _ _ ?_ q1 Tryz.underlying27 rfl Tryz.infoG4
    rfl
  rw [if_neg k7] at HHD
  go_wp2_with fail
  refine HM.out.mono ?_
  rintro e w' ⟨rfl, rfl⟩
  obtain ⟨ov, os, hblk, hown, hol, hne⟩ := H3.out.1.mem
  have hq2 : w3.cell? ⟨wb, 5, none⟩ = some ov := by simp [World.cell?, hblk]
  have hf2 : w3.frozen? ⟨wb, 5, none⟩ = false := by simp [World.frozen?, hblk]
  have hB5 : B ≤ w3.heap.size := Nat.le_trans hB (Nat.le_trans H.out.2.1.2.size H3.out.2.2.size)
  have hpl5 := H3.out.1.lt
  obtain ⟨w6, hw6⟩ : ∃ w6, w6 = w3.alloc (.cells #[.bool lt] 4) := ⟨_, rfl⟩
  have hal : Below w3.heap.size w3 w6 := by subst hw6; exact (Below.refl _ w3).alloc (Nat.le_refl _) _
  have HV := Lib.hid (hown.belowO hal)
  have HY : Hid (OwnO w3.heap.size w6 (.slice (some ⟨w3.heap.size, 0, none⟩) 1 1) [lt]) := by subst hw6; exact Lib.hid (one_bool w3 lt)
  have hf6 : w6.frozen? ⟨wb, 5, none⟩ = false := by rw [hal.frozen (p := ⟨wb, 5, none⟩) hpl5]; exact hf2
  have hBs : B ≤ w6.heap.size := Nat.le_trans hB5 hal.size
  have HBK := Lib.hid hblk
  have HOS := Lib.hid hown
  clear hblk hown
  go_upto_region 16 with (first
    | (refine (list_appendO rfl (.tmp 99) (.tmp 101) rfl ov _ rfl rfl (hw6 ▸ HV.out) (hw6 ▸ HY.out) (by omega) (hw6 ▸ hBs) ?_)
       intro g3 cap3 w7 ho3 hgr3 hg3 hlt3
       rw [← hw6] at hgr3 hg3
       have hf7 : w7.frozen? ⟨wb, 5, none⟩ = false := by rw [World.frozen?_of_block (w := w6) (hgr3.block wb (Nat.lt_of_lt_of_le hpl5 hal.size) (fun e => hne e.symm))]; exact hf6
       have hq7 : w7.cell? ⟨wb, 5, none⟩ = some ov := hgr3.cell (a := ⟨wb, 5, none⟩) ((hal.cell (p := ⟨wb, 5, none⟩) hpl5).trans hq2) (fun e => hne e.symm)
       have HR3 := Lib.hid (And.intro ho3 (And.intro hgr3 (And.intro hg3 hlt3)))
       clear ho3 hgr3 hg3 hlt3)
    | fail)
  have hgr := IsWk.note (oc' := oc + 1) H3.out.1 hB5 HBK.out HOS.out (by rw [List.length_append]; simp only [List.length_cons, List.length_nil]; omega) (by omega) hne hal HR3.out.1 HR3.out.2.1 HR3.out.2.2.1
  obtain ⟨w8, hw8⟩ : ∃ w8, w8 = w7.setCell ⟨wb, 5, none⟩ (.slice (some ⟨g3, 0, none⟩) (os.length + 1) cap3) := ⟨_, rfl⟩
  rw [← hw8] at hgr ⊢
  obtain ⟨w9, hw9⟩ : ∃ w9, w9 = w8.alloc (.cells #[.int .i64 kd, .slice none 0 0, .slice none 0 0, .slice none 0 0] 27) := ⟨_, rfl⟩
  have hb9 : Below w8.heap.size w8 w9 := by subst hw9; exact (Below.refl _ w8).alloc (Nat.le_refl _) _
  have hg9 : w9.heap[w8.heap.size]? = some (.cells #[.int .i64 kd, .slice none 0 0, .slice none 0 0, .slice none 0 0] 27 (0, 0)) := by subst hw9; exact World.alloc_heap_new _ _
  have hB8 : B ≤ w8.heap.size := Nat.le_trans hB5 hgr.2.2.size
  have h9 := hgr.1.below hb9
  have a9 := hgr.1.apt hb9 w8.heap.size (Nat.le_refl _) (lt_of_heap hg9)
  have s89 := StepW.made hgr.1.lt hb9 hB8
  have s8 : StepW B wb w1 w8 := H3.out.2.trans hgr.2
  have hw8s : w.heap.size < w8.heap.size := Nat.lt_of_lt_of_le (lt_of_heap H.out.2.2.2.1) s8.2.size
  have hB9 : B ≤ w9.heap.size := Nat.le_trans hB8 hb9.size
  have H8 := Lib.hid (And.intro hgr.1 s8)
  have H9 := Lib.hid (And.intro h9 (And.intro a9 (And.intro s89 hg9)))
  have hb0 : w9.cell? ⟨w8.heap.size, 0, none⟩ = some (.int .i64 kd) := by simp [World.cell?, hg9]
  clear hgr hb9 hg9 h9 a9 s89 s8 HR3 hf7 hq7 hw6 hw8 HV HY HBK HOS hq2 hf2 hf6 hne hal hBs hpl5 hol c3 c2 HM
  go_upto_region 17 with (fail)
  rw [← hw9]
  clear hw9
  go_upto_block 0 with (fail)
  have HLV : Hid (0 ≤ level + 1 ∧ level + 1 ≤ 257 ∧ level + 1 + (f : Int) = 258) := Lib.hid (by omega)
  have hwl : IntKind.i64.wrap (level + 1) = level + 1 := by rw [IntKind.wrap_i64]; omega
  clear hb0 hbi h0 hwa
  go_cut [] (fun W => GeoW B w8 wb v l deep (treeR l deep (f + 1) level home at_) kd w8.heap.size W)
  case first =>
    by_cases k1 : kd = 1
    · subst k1
      have HTR := Lib.hid (treeR_one (f := f) HHD.out)
      have HSP := Lib.hid (spot_any lt w9 H9.out.1 hB9)
      have b0 := cell_row (cs := [_, _, _, _]) (j := 0) H9.out.2.2.2 rfl
      go_wp2_with fail
      refine HSP.out.mono ?_
      rintro e w10 ⟨x, u, a, er, oc1, rfl, hv, hwk, hst, hm⟩
      have hg10 := (hst.1 _ H9.out.2.1).1.trans H9.out.2.2.2
      have ha10 := (hst.1 _ H9.out.2.1).2
      have hq1 := cell_row (cs := [_, _, _, _]) (j := 1) hg10 rfl
      have hf1 := frozen_row (cs := [_, _, _, _]) hg10 1
      have hv' := hv
      obtain ⟨_, A1, m1, rfl, _, _, _⟩ := hv'
      have hst2 := IsWk.set H8.out.1 (H9.out.2.2.1.trans hst) hwk (Nat.le_refl _) ha10 hB8 1 (.slice A1 x.length m1)
      have hg11 := heap_store (cs := [_, _, _, _]) hg10 (j := 1) (.slice A1 x.length m1)
      have HST := Lib.hid (And.intro hst2 (And.intro hg11 (And.intro hv hm)))
      clear hst2 hg11 hg10 hst hwk hv hm
      go_wp2
      go_meet
      case rel =>
        refine ⟨.mk 1 x [] [], a, er, oc1, _, _, _, ?_, by simpa using HST.out.2.1, HST.out.1.1, HST.out.1.2.1, by rw [HTR.out]; exact Gives.map HST.out.2.2.2 (fun q => G.mk 1 q [] [])⟩
        have h9 : w8.heap.size < w9.heap.size := H9.out.2.1.1
        have hpv : Pts (fun b => AptW (w10.setCell ⟨w8.heap.size, 1, none⟩ (.slice A1 x.length m1)) wb b ∧ w8.heap.size < b) (w10.setCell ⟨w8.heap.size, 1, none⟩ (.slice A1 x.length m1)) (.slice A1 x.length m1) x :=
          (HST.out.2.2.1.keeps (keeps_set fun b hb e => by have := hb.2; omega)).mono fun b _ hb => ⟨HST.out.1.2.2 b hb.1, Nat.lt_of_lt_of_le h9 hb.2⟩
        simp only [IsG]
        exact ⟨_, _, _, rfl, hpv, ⟨[], Sl.nil _ _, .nil⟩, [], Sl.nil _ _, rfl⟩
    have k1i : ¬ (kd : Int) = 1 := by omega
    by_cases k2 : kd = 2
    · subst k2
      have HTR := Lib.hid (treeR_two (f := f) HHD.out)
      have HCT := Lib.hid (cnt_any lt 16 false (by omega) w9 H9.out.1)
      have b0 := cell_row (cs := [_, _, _, _]) (j := 0) H9.out.2.2.2 rfl
      go_wp2_with fail
      refine HCT.out.mono ?_
      rintro e w10 ⟨n, u, a, er, oc1, rfl, ⟨rfl, hn⟩, hwk, hst, hm⟩
      have HPB := Lib.hid (pairs_both lt n w10 hwk (Nat.le_trans hB9 hst.2.size) hm (fun y hy => (cntR_len hy).2.1))
      have HS10 := Lib.hid hst
      clear hwk hst hm
      go_wp2_with fail
      refine HPB.out.mono ?_
      rintro e w11 ⟨x, u, a2, er2, oc2, rfl, hv, hwk, hst, hm⟩
      have hst2 := HS10.out.trans hst
      have hg10 := (hst2.1 _ H9.out.2.1).1.trans H9.out.2.2.2
      have ha10 := (hst2.1 _ H9.out.2.1).2
      have hq1 := cell_row (cs := [_, _, _, _]) (j := 1) hg10 rfl
      have hf1 := frozen_row (cs := [_, _, _, _]) hg10 1
      have hv' := hv
      obtain ⟨_, A1, m1, rfl, _, _, _⟩ := hv'
      have hst3 := IsWk.set H8.out.1 (H9.out.2.2.1.trans hst2) hwk (Nat.le_refl _) ha10 hB8 1 (.slice A1 x.length m1)
      have hg11 := heap_store (cs := [_, _, _, _]) hg10 (j := 1) (.slice A1 x.length m1)
      have HST := Lib.hid (And.intro hst3 (And.intro hg11 (And.intro hv hm)))
      clear hst2 hst3 hg11 hg10 hst hwk hv hm
      go_wp2
      go_meet
      case rel =>
        refine ⟨.mk 2 x [] [], a2, er2, oc2, _, _, _, ?_, by simpa using HST.out.2.1, HST.out.1.1, HST.out.1.2.1, by rw [HTR.out]; exact Gives.map HST.out.2.2.2 (fun q => G.mk 2 q [] [])⟩
        have h9 : w8.heap.size < w9.heap.size := H9.out.2.1.1
        have h10 := HS10.out.2.size
        have hpv : Pts (fun b => AptW (w11.setCell ⟨w8.heap.size, 1, none⟩ (.slice A1 x.length m1)) wb b ∧ w8.heap.size < b) (w11.setCell ⟨w8.heap.size, 1, none⟩ (.slice A1 x.length m1)) (.slice A1 x.length m1) x :=
          (HST.out.2.2.1.keeps (keeps_set fun b hb e => by have := hb.2; omega)).mono fun b _ hb => ⟨HST.out.1.2.2 b hb.1, by have := hb.2; omega⟩
        simp only [IsG]
        exact ⟨_, _, _, rfl, hpv, ⟨[], Sl.nil _ _, .nil⟩, [], Sl.nil _ _, rfl⟩
    have k2i : ¬ (kd : Int) = 2 := by omega
    by_cases k3 : kd = 3
    · subst k3
      have HTR := Lib.hid (treeR_three (f := f) HHD.out)
      have HCT := Lib.hid (cnt_any lt 20 false (by omega) w9 H9.out.1)
      have b0 := cell_row (cs := [_, _, _, _]) (j := 0) H9.out.2.2.2 rfl
      go_wp2_with fail
      refine HCT.out.mono ?_
      rintro e w10 ⟨n, u, a, er, oc1, rfl, ⟨rfl, hn⟩, hwk, hst, hm⟩
      have HGI := Lib.hid (And.intro (GrowW.start (t := 23) (.int .i64 3) 2 1 (.inl rfl) hwk (H9.out.2.2.1.trans hst) (hst.1 _ H9.out.2.1).2 ((hst.1 _ H9.out.2.1).1.trans H9.out.2.2.2)) (loopL_start (f := ringR l lt) hm))
      obtain ⟨R, hR⟩ : ∃ R, (thenR (cntR l lt 20 false (at_ + 5)) fun n a => manyR (ringR l lt) n a) = R := ⟨_, rfl⟩
      rw [hR] at HTR HGI
      clear hwk hst hm hR b0
      go_wp2_with fail
      go_loopw [13] (fun i wr => ∃ k : Nat, k ≤ n ∧ i = .int .i64 k ∧ Hid (RingsW B w8 wb w8.heap.size v l deep lt R n k wr)) (fun i _ => n - (intOf i).toNat)
      case atStart =>
        exact ⟨0, Nat.zero_le _, rfl, [], _, _, _, [], _, rfl, HGI.out.2, HGI.out.1, .nil⟩
      case round =>
        obtain ⟨k, hk, rfl, acc, a, er, oc1, vs, sv, hal, hl, hgi, hea⟩ := hrel
        have HEND : Hid ((er = none → k = n) → GeoW B w8 wb v l deep (treeR l deep (f + 1) level home at_) 3 w8.heap.size wr) := Lib.hid fun hk => by
          refine ⟨.mk 3 [] acc [], a, er, oc1, .slice none 0 0, sv, .slice none 0 0, ?_, by simpa using hgi.box, hgi.wk, hgi.step, by rw [HTR.out]; exact Gives.map (loopL_gives hl (fun he => by rw [hk he]; exact Nat.sub_self n)) (fun q => G.mk 3 [] q [])⟩
          simp only [IsG]
          exact ⟨_, _, _, rfl, ⟨by simp, Sl.nil _ _⟩, ⟨vs, by rw [hal]; exact (hgi.own.sl (by omega)).mono fun b _ hb => ⟨hb.1, by have := hb.2; omega⟩, hea.imp fun _ _ h => Pts.mono h fun b _ hb => hb.1⟩, [], Sl.nil _ _, rfl⟩
        cases er with
        | some z =>
          have c3 := hgi.wk.c3
          have hnz := hgi.wk.nz z rfl
          simp only [erC] at c3
          have hb : (z.2 == 0) = false := by simpa using hnz
          have HX := Lib.hid (HEND.out (fun e => by cases e))
          clear hl hgi hea HEND
          generalize z.2 = cc at *
          by_cases hkn : k < n
          · go_wp2
            go_meet
            case rel => exact HX.out
          · go_wp2
            go_meet
            case rel => exact HX.out
        | none =>
        have c3 : wr.cell? ⟨wb, 3, none⟩ = some (.int .i64 0) := hgi.wk.c3
        by_cases hkn : k < n
        · obtain ⟨m, hm⟩ : ∃ m, n - k = m + 1 := ⟨n - k - 1, by omega⟩
          rw [hm] at hl
          have HL := Lib.hid hl
          have HGI2 := Lib.hid hgi
          have HEA := Lib.hid hea
          have hBr : B ≤ wr.heap.size := Nat.le_trans hB8 hgi.step.2.size
          have HCN := Lib.hid (fun W (h : IsWk B W wb v l a deep none oc1) => cnt_any lt 16 true (by omega) W h)
          have HPB := Lib.hid (fun W n1 a1 er1 oc2 (h : IsWk B W wb v l a1 deep er1 oc2) (hs : B ≤ W.heap.size) (hm1 : Gives (cntR l lt 16 true a) n1 a1 er1) => pairs_both lt n1 W h hs hm1 (fun y hy => (cntR_len hy).2.1))
          have c2 := cell_row (j := 2) (x := sv) hgi.box rfl
          clear hl hgi hea HEND
          go_wp2
          go_region_law (first
            | (refine step_appendR rfl (.tmp 169) (.tmp 176) rfl sv (.slice A1 x.length m1) rfl rfl HV.out.1 HV.out.2.1 rfl (by omega) HV.out.2.2.1 ?_
               intro g3 cap3 w13 ho3 hgr3 hg3 hlt3
               have hf13 : w13.frozen? ⟨w8.heap.size, 2, none⟩ = false := by rw [World.frozen?_of_block (w := _) (hgr3.block w8.heap.size HV.out.2.2.2.1 (fun e => HV.out.2.2.2.2.1 e.symm))]; exact HV.out.2.2.2.2.2.1
               have hq13 : w13.cell? ⟨w8.heap.size, 2, none⟩ = some sv := by rw [World.cell?_of_block (w := _) (hgr3.block w8.heap.size HV.out.2.2.2.1 (fun e => HV.out.2.2.2.2.1 e.symm))]; exact HV.out.2.2.2.2.2.2
               have HR3 := Lib.hid (And.intro ho3 (And.intro hgr3 (And.intro hg3 hlt3)))
               clear ho3 hgr3 hg3 hlt3)
            | ((try go_simp)
               go_at_call 80
               refine (HPB.out _ n1 a1 er1 oc2 ?_ ?_ HC1.out.2.2).mono ?_
               · first | exact HC1.out.1 | exact HC1.out.1.drew | exact HC1.out.1.drewN 1
               · exact HC1.out.2.1
               rintro e w11 ⟨x, u2, a2, er2, oc3, rfl, hv, hwk2, hs2, hm2⟩
               replace hs2 : StepW B wb w10 w11 := by first | exact hs2 | exact hs2.undrew1 | exact hs2.undrew
               have hgc := HGC1.out.1.call hwk2 hs2
               have hel : Pts (GrowOkW w11 wb w8.heap.size sv) w11 u2 x := hv.mono fun b _ hb => ⟨⟨hb.1, Nat.lt_of_lt_of_le HGC1.out.1.apt.1 hb.2⟩, fun e => by have := (World.ownsRow.lt HGC1.out.1.own.own b e).2; have h2 : w10.heap.size ≤ b := hb.2; omega⟩
               have hv' := hv
               obtain ⟨_, A1, m1, rfl, _, _, _⟩ := hv'
               have c11 := cell_row (j := 2) (x := sv) hgc.1.box rfl
               have f11 := frozen_row hgc.1.box 2
               obtain ⟨w12, hw12⟩ : ∃ w12, w12 = w11.alloc (.cells #[.slice A1 x.length m1] 23) := ⟨_, rfl⟩
               have hal12 : Below w11.heap.size w11 w12 := by subst hw12; exact (Below.refl _ w11).alloc (Nat.le_refl _) _
               have hy12 : w12.cell? ⟨w11.heap.size, 0, none⟩ = some (.slice A1 x.length m1) := by subst hw12; rw [World.cell?_alloc_mark]; rfl
               have HAL := Lib.hid hal12
               have HV := Lib.hid (And.intro (ownsRow_below hgc.1.own.own hal12) (And.intro hy12 (And.intro (show w8.heap.size + 1 ≤ w12.heap.size from Nat.le_trans hgc.1.apt.1 hal12.size) (And.intro (Nat.lt_of_lt_of_le hgc.1.apt.1 hal12.size) (And.intro (show sv.ownBlock ≠ some w8.heap.size from fun e => by have := (World.ownsRow.lt hgc.1.own.own _ e).1; omega) (And.intro ((hal12.frozen (p := ⟨w8.heap.size, 2, none⟩) hgc.1.apt.1).trans f11) ((hal12.cell (p := ⟨w8.heap.size, 2, none⟩) hgc.1.apt.1).trans c11)))))))
               have HGC := Lib.hid (And.intro hgc (And.intro hel hm2))
               have c12 := (hal12.cell (p := ⟨w8.heap.size, 2, none⟩) hgc.1.apt.1).trans c11
               subst hw12
               clear hgc hel hv hs2 hwk2 hm2 hal12 hy12)
            | ((try go_simp)
               go_at_call 81
               refine (HCN.out _ ?_).mono ?_
               · first | exact HGI2.out.wk | exact HGI2.out.wk.drew | exact HGI2.out.wk.drewN 1
               rintro e w10 ⟨n1, u1, a1, er1, oc2, rfl, ⟨rfl, hn1⟩, hwk1, hs1, hm1⟩
               replace hs1 : StepW B wb wr w10 := by first | exact hs1 | exact hs1.undrew1 | exact hs1.undrew
               have hgc1 := HGI2.out.call hwk1 hs1
               have HC1 := Lib.hid (And.intro hwk1 (And.intro (Nat.le_trans hBr hs1.2.size) hm1))
               have c10 := cell_row (j := 2) (x := sv) hgc1.1.box rfl
               have f10 := frozen_row hgc1.1.box 2
               have HGC1 := Lib.hid hgc1
               clear hgc1 hwk1 hs1 hm1))
          all_goals
            have HG := Lib.hid (GrowW.grow (w8 := w8) (Nat.le_refl _) hB8 H8.out.1 HGC.out.1.1 HAL.out HR3.out.1 HR3.out.2.1 HR3.out.2.2.1 HR3.out.2.2.2)
            have HNX := Lib.hid (loopL_next HL.out (x := x) (a' := a2) (er := er2) (by rw [ring_then]; exact HGC.out.2.2))
            go_wp2
            go_roundw
            · refine ⟨k + 1, hkn, by simp, acc ++ [x], a2, er2, oc3, _, _, by simp [hal], ?_, HG.out.1, ?_⟩
              · rw [show n - (k + 1) = m by omega]; exact HNX.out
              · have h1 := HEA.out.imp fun _ _ h => (Pts.keeps h HGC1.out.2.1).mono fun b _ hb => HGC1.out.2.2 b hb
                have h2 := h1.imp fun _ _ h => (Pts.keeps h HGC.out.1.2.1).mono fun b _ hb => HGC.out.1.2.2 b hb
                exact (h2.append (.cons HGC.out.2.1 .nil)).imp fun _ _ h => (Pts.keeps h HG.out.2.1).mono fun b _ hb => HG.out.2.2 b hb
            · simp [intOf]; omega
        · have HX := Lib.hid (HEND.out (fun _ => by omega))
          clear hl hgi hea HEND
          go_wp2
          go_meet
          case rel => exact HX.out
    have k3i : ¬ (kd : Int) = 3 := by omega
    have hk47 : 4 ≤ (kd : Int) ∧ (kd : Int) ≤ 7 := by omega
    obtain ⟨least, hls⟩ : ∃ least : Nat, (if kd = 4 then 21 else 9) = least := ⟨_, rfl⟩
    have hl30 : least ≤ 30 := by rw [← hls]; split <;> omega
    have HTR := Lib.hid (treeR_more (f := f) HHD.out k1 k2 k3)
    rw [hls] at HTR
    have HCT := Lib.hid (cnt_any lt least false hl30 w9 H9.out.1)
    have HLS := Lib.hid hls
    have b0 := cell_row (cs := [_, _, _, _]) (j := 0) H9.out.2.2.2 rfl
    clear hls hl30
    go_upto_if 109 with (fail)
    go_cut [14] (fun x W => x = .int .i64 (least : Int) ∧ W = w9)
    case first =>
      by_cases k4 : (kd : Int) = 4
      · go_wp2
        go_meet
        case rel =>
          have h := HLS.out
          rw [if_pos (by omega)] at h
          subst h
          exact ⟨rfl, rfl⟩
      · go_wp2
        go_meet
        case rel =>
          have h := HLS.out
          rw [if_neg (by omega)] at h
          subst h
          exact ⟨rfl, rfl⟩
    case rest =>
      obtain ⟨rfl, rfl⟩ := hcut
      go_wp2_with fail
      refine HCT.out.mono ?_
      rintro e w10 ⟨n, u, a, er, oc1, rfl, ⟨rfl, hn⟩, hwk, hst, hm⟩
      have HGI := Lib.hid (And.intro (GrowW.start (t := 27) (.int .i64 kd) 3 4 (.inr rfl) hwk (H9.out.2.2.1.trans hst) (hst.1 _ H9.out.2.1).2 ((hst.1 _ H9.out.2.1).1.trans H9.out.2.2.2)) (loopL_start (f := treeR l deep f (level + 1) kd) hm))
      obtain ⟨R, hR⟩ : ∃ R, (thenR (cntR l lt least false (at_ + 5)) fun n a => manyR (treeR l deep f (level + 1) kd) n a) = R := ⟨_, rfl⟩
      rw [hR] at HTR HGI
      clear hwk hst hm hR b0
      go_wp2_with fail
      go_loopw [16] (fun i wr => ∃ k : Nat, k ≤ n ∧ i = .int .i64 k ∧ Hid (PartsW B w8 wb w8.heap.size v l deep f (level + 1) kd R n k wr)) (fun i _ => n - (intOf i).toNat)
      case atStart =>
        exact ⟨0, Nat.zero_le _, rfl, [], _, _, _, [], _, rfl, HGI.out.2, HGI.out.1, by simp [IsGs]⟩
      case round =>
        obtain ⟨k, hk, rfl, acc, a, er, oc1, vs, sv, hal, hl, hgi, hea⟩ := hrel
        have HEND : Hid ((er = none → k = n) → GeoW B w8 wb v l deep (treeR l deep (f + 1) level home at_) kd w8.heap.size wr) := Lib.hid fun hk => by
          refine ⟨.mk kd [] [] acc, a, er, oc1, .slice none 0 0, .slice none 0 0, sv, ?_, by simpa using hgi.box, hgi.wk, hgi.step, by rw [HTR.out]; exact Gives.map (loopL_gives hl (fun he => by rw [hk he]; exact Nat.sub_self n)) (fun q => G.mk kd [] [] q)⟩
          simp only [IsG]
          exact ⟨_, _, _, rfl, ⟨by simp, Sl.nil _ _⟩, ⟨[], Sl.nil _ _, .nil⟩, vs, by rw [hal]; exact (hgi.own.sl (by omega)).mono fun b _ hb => ⟨hb.1, by have := hb.2; omega⟩, hea.mono fun b _ hb => hb.1⟩
        cases er with
        | some z =>
          have c3 := hgi.wk.c3
          have hnz := hgi.wk.nz z rfl
          simp only [erC] at c3
          have hb : (z.2 == 0) = false := by simpa using hnz
          have HX := Lib.hid (HEND.out (fun e => by cases e))
          clear hl hgi hea HEND
          generalize z.2 = cc at *
          by_cases hkn : k < n
          · go_wp2
            go_meet
            case rel => exact HX.out
          · go_wp2
            go_meet
            case rel => exact HX.out
        | none =>
        have c3 : wr.cell? ⟨wb, 3, none⟩ = some (.int .i64 0) := hgi.wk.c3
        by_cases hkn : k < n
        · obtain ⟨m, hm⟩ : ∃ m, n - k = m + 1 := ⟨n - k - 1, by omega⟩
          rw [hm] at hl
          have HL := Lib.hid hl
          have HGI2 := Lib.hid hgi
          have HEA := Lib.hid hea
          have hBr : B ≤ wr.heap.size := Nat.le_trans hB8 hgi.step.2.size
          have HRG := Lib.hid (fun W (h : IsWk B W wb v l a deep none oc1) (hs : B ≤ W.heap.size) => IH.out B wb a oc1 v l deep (level + 1) kd W h hs hd HLV.out.1 HLV.out.2.1 HLV.out.2.2 (.inr hk47))
          have c2 := cell_row (j := 3) (x := sv) hgi.box rfl
          clear hl hgi hea HEND
          go_wp2
          go_region_law (first
            | (refine step_appendG rfl (.tmp 127) (.tmp 133) rfl sv rfl rfl HV.out.1 HV.out.2.1 (by simp [Value.oneCell']) (by omega) HV.out.2.2.1 ?_
               intro g3 cap3 w13 ho3 hgr3 hg3 hlt3
               have hf13 : w13.frozen? ⟨w8.heap.size, 3, none⟩ = false := by rw [World.frozen?_of_block (w := _) (hgr3.block w8.heap.size HV.out.2.2.2.1 (fun e => HV.out.2.2.2.2.1 e.symm))]; exact HV.out.2.2.2.2.2.1
               have hq13 : w13.cell? ⟨w8.heap.size, 3, none⟩ = some sv := by rw [World.cell?_of_block (w := _) (hgr3.block w8.heap.size HV.out.2.2.2.1 (fun e => HV.out.2.2.2.2.1 e.symm))]; exact HV.out.2.2.2.2.2.2
               have HR3 := Lib.hid (And.intro ho3 (And.intro hgr3 (And.intro hg3 hlt3)))
               clear ho3 hgr3 hg3 hlt3)
            | ((try go_simp)
               go_at_call 59
               refine (HRG.out _ ?_ ?_).mono ?_
               · first | exact HGI2.out.wk | exact HGI2.out.wk.drew | exact HGI2.out.wk.drewN 1
               · exact hBr
               rintro e w11 ⟨x, u2, a2, er2, oc3, rfl, ⟨cs, rfl, hv⟩, hwk2, hs2, hm2⟩
               replace hs2 : StepW B wb wr w11 := by first | exact hs2 | exact hs2.undrew1 | exact hs2.undrew
               have hgc := HGI2.out.call hwk2 hs2
               have hel : IsG (GrowOkW w11 wb w8.heap.size sv) w11 x cs := hv.mono fun b _ hb => ⟨⟨hb.1, Nat.lt_of_lt_of_le HGI2.out.apt.1 hb.2⟩, fun e => by have := (World.ownsRow.lt HGI2.out.own.own b e).2; have h2 : wr.heap.size ≤ b := hb.2; omega⟩
               obtain ⟨kx, lx, rx, px⟩ := x
               have hv2 := hv
               simp only [IsG] at hv2
               obtain ⟨x1, x2, x3, rfl, ⟨_, D1, m1, rfl, _⟩, ⟨_, ⟨D2, m2, rfl, _⟩, _⟩, _, ⟨D3, m3, rfl, _⟩, _⟩ := hv2
               have c11 := cell_row (j := 3) (x := sv) hgc.1.box rfl
               have f11 := frozen_row hgc.1.box 3
               obtain ⟨w12, hw12⟩ : ∃ w12, w12 = w11.alloc (.cells #[.int .i64 kx, .slice D1 lx.length m1, .slice D2 rx.length m2, .slice D3 px.length m3] 27) := ⟨_, rfl⟩
               have hal12 : Below w11.heap.size w11 w12 := by subst hw12; exact (Below.refl _ w11).alloc (Nat.le_refl _) _
               have hy12 : ∀ j u, [Value.int .i64 kx, .slice D1 lx.length m1, .slice D2 rx.length m2, .slice D3 px.length m3][j]? = some u → w12.cell? ⟨w11.heap.size, j, none⟩ = some u := by subst hw12; intro j u h; rw [World.cell?_alloc_mark]; simpa using h
               have HAL := Lib.hid hal12
               have HV := Lib.hid (And.intro (ownsRow_below hgc.1.own.own hal12) (And.intro hy12 (And.intro (show w8.heap.size + 1 ≤ w12.heap.size from Nat.le_trans hgc.1.apt.1 hal12.size) (And.intro (Nat.lt_of_lt_of_le hgc.1.apt.1 hal12.size) (And.intro (show sv.ownBlock ≠ some w8.heap.size from fun e => by have := (World.ownsRow.lt hgc.1.own.own _ e).1; omega) (And.intro ((hal12.frozen (p := ⟨w8.heap.size, 3, none⟩) hgc.1.apt.1).trans f11) ((hal12.cell (p := ⟨w8.heap.size, 3, none⟩) hgc.1.apt.1).trans c11)))))))
               have HGC := Lib.hid (And.intro hgc (And.intro hel hm2))
               have c12 := (hal12.cell (p := ⟨w8.heap.size, 3, none⟩) hgc.1.apt.1).trans c11
               subst hw12
               clear hgc hel hv hs2 hwk2 hm2 hal12 hy12))
          all_goals
            have HG := Lib.hid (GrowW.grow (w8 := w8) (Nat.le_refl _) hB8 H8.out.1 HGC.out.1.1 HAL.out HR3.out.1 HR3.out.2.1 HR3.out.2.2.1 HR3.out.2.2.2)
            have HNX := Lib.hid (loopL_next HL.out (x := G.mk kx lx rx px) (a' := a2) (er := er2) HGC.out.2.2)
            go_wp2
            go_roundw
            · refine ⟨k + 1, hkn, by simp, acc ++ [G.mk kx lx rx px], a2, er2, oc3, _, _, by simp [hal], ?_, HG.out.1, ?_⟩
              · rw [show n - (k + 1) = m by omega]; exact HNX.out
              · exact ((((HEA.out.keeps HGC.out.1.2.1).mono fun b _ hb => HGC.out.1.2.2 b hb).append (IsGs.one HGC.out.2.1)).keeps HG.out.2.1).mono fun b _ hb => HG.out.2.2 b hb
            · simp [intOf]; omega
        · have HX := Lib.hid (HEND.out (fun _ => by omega))
          clear hl hgi hea HEND
          go_wp2
          go_meet
          case rel => exact HX.out
  case rest =>
    obtain ⟨x, a, er, oc1, x1, x2, x3, hig, hbox, hwk, hst, hgv⟩ := hcut
    have hs1 : StepW B wb w1 wc := H8.out.2.trans hst
    obtain ⟨⟨z0, z1, z2, z3⟩, g0, g1, g2, g3⟩ := HZ.out _ hs1
    have hz := (hs1.1 _ H.out.2.2.1).1.trans H.out.2.2.2.1
    have hapt := (hs1.1 _ H.out.2.2.1).2
    have hig2 := hig
    obtain ⟨xk, xl, xr, xp⟩ := x
    simp only [IsG] at hig2
    obtain ⟨y1, y2, y3, hys, ⟨_, D1, m1, hy1, _⟩, ⟨_, ⟨D2, m2, hy2, _⟩, _⟩, _, ⟨D3, m3, hy3, _⟩, _⟩ := hig2
    simp only [List.cons.injEq, and_true] at hys
    obtain ⟨hyk, rfl, rfl, rfl⟩ := hys
    subst hy1 hy2 hy3
    have d0 := cell_row (cs := [_, _, _, _]) (j := 0) hbox rfl
    have d1 := cell_row (cs := [_, _, _, _]) (j := 1) hbox rfl
    have d2 := cell_row (cs := [_, _, _, _]) (j := 2) hbox rfl
    have d3 := cell_row (cs := [_, _, _, _]) (j := 3) hbox rfl
    have HR := Lib.hid (And.intro hig (And.intro hwk (And.intro hs1 (And.intro hz (And.intro hapt hgv)))))
    clear hig hwk hst hgv hz hapt hbox hs1
    go_wp2
    obtain ⟨q1, q2, q3, q4⟩ := four_set HR.out.2.2.2.1 (.int .i64 (kd : Int)) (.slice D1 xl.length m1) (.slice D2 xr.length m2) (.slice D3 xp.length m3) rfl
    obtain ⟨o1, o2, o3, _⟩ := IsWk.other H.out.1 (H.out.2.1.trans HR.out.2.2.1) HR.out.2.1 (some w.heap.size) (grown_trans (grown_trans (grown_trans (grownBy_set wc ⟨w.heap.size, 0, none⟩ (.int .i64 (kd : Int))) (grownBy_set _ ⟨w.heap.size, 1, none⟩ (.slice D1 xl.length m1))) (grownBy_set _ ⟨w.heap.size, 2, none⟩ (.slice D2 xr.length m2))) (grownBy_set _ ⟨w.heap.size, 3, none⟩ (.slice D3 xp.length m3))) (fun g hg => by cases hg; exact ⟨Nat.le_refl _, HR.out.2.2.2.2.1⟩) hB
    refine bodyPost_ret (v := .agg #[.int .i64 kd, .slice D1 xl.length m1, .slice D2 xr.length m2, .slice D3 xp.length m3]) ?_ rfl ?_
    · refine results_cell_row (p := 6) (ty := 27) Tryz.results59 _ _ w.heap.size _ _ _ _ ?_ q1 Tryz.underlying27 rfl Tryz.infoG4
      rfl
    refine ⟨.mk _ xl xr xp, _, a, er, oc1, rfl, ⟨_, rfl, ?_⟩, o1, o2, HR.out.2.2.2.2.2⟩
    exact (HR.out.1.keeps fun b o hb ho _ => (q2 b (by have := hb.2; omega)).trans ho).mono fun b _ hb => ⟨o3 b hb.1, by have := hb.2; omega⟩
end Go.Proofs.YtlffgepnhhnadaaGreatDoor.Pl
