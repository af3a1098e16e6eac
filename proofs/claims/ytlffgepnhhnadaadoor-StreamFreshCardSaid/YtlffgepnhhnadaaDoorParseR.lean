/- wkb's parser, walked: a ring, a point's place. -/
import Derived.Test.YtlffgepnhhnadaaDoorParseP
namespace Go.Proofs.YtlffgepnhhnadaaDoor.Pl
open Go.RowKit

theorem IsPar.apt {B pb rb at_ : Nat} {w w' : World} {v : Value} {l : List UInt8} {deep : Int} {os : List Bool} (h : IsPar B w pb rb v l at_ deep os) (hb : Below w.heap.size w w') (b : Nat) (h1 : w.heap.size ≤ b) (h2 : b < w'.heap.size) : AptR w' pb rb b := by
  have hpl := h.lt
  have hrl := lt_of_heap h.rd.blk
  refine ⟨h2, by omega, by omega, fun x hx => ?_⟩
  obtain ⟨ov, g1, g2, _⟩ := h.mem
  rw [hb.cell (p := ⟨pb, 2, none⟩) hpl] at hx
  simp [World.cell?, g1] at hx; subst hx
  intro e; have := (World.ownsRow.lt g2 _ e).2; omega

set_option maxRecDepth 100000 in
theorem ring_any {B pb rb at_ : Nat} {v : Value} {l : List UInt8} {deep : Int} {os : List Bool} (little : Bool) (w : World) (hp : IsPar B w pb rb v l at_ deep os) (hB : B ≤ w.heap.size) :
    Calls Tryd.prog 130 #[.pointer (some ⟨pb, 0, none⟩), .bool little] w
      (PPost B w pb rb v l deep (fun x u w' => Pts (NewR w w' pb rb) w' u x) ((ringR l little at_).map fun x => (x.1, x.2, os))) := by
  have c0 := hp.c0
  have HA := Lib.hid (At_any w hp.rd)
  have HN := Lib.hid (need_any 4 w hp)
  have HP := Lib.hid hp
  unfold ringR
  by_cases h4 : l.length - at_ < 4
  · rw [if_pos h4]
    have HH := Lib.hid h4
    clear hp h4
    go_enter Tryd.func130, Tryd.ntmps130
    go_wp2_with fail
    refine HA.out.mono ?_
    rintro e w' ⟨rfl, rfl⟩
    go_wp2_with fail
    refine HN.out.mono ?_
    rw [if_pos HH.out]
    rintro e w' ⟨hb, he⟩
    cases he
    have HB := Lib.hid hb
    clear hb
    go_wp2
    exact ⟨rfl, HB.out, rfl⟩
  · rw [if_neg h4]
    have hl4 : at_ + 4 ≤ l.length := by omega
    have hd : l.length ≤ 140737488355328 := by obtain ⟨A, c, _, _, h, _⟩ := hp.bytes; omega
    have hwl := wd_lt l at_ 4 little
    have HW := Lib.hid (fun w' (h : IsRd w' rb v l at_) => Word32_any little w' h hl4)
    change Hid (∀ w' (h : IsRd w' rb v l at_), Calls _ _ _ _ fun e w'' => e = .returned (.int .u32 (wd l at_ 4 little)) ∧ _) at HW
    have HL := Lib.hid (fun w' (h : IsRd w' rb v l (at_ + 4)) => Left_any w' h)
    generalize wd l at_ 4 little = x at hwl HW ⊢
    have hw1 : IntKind.i64.wrap (x : Int) = x := by rw [IntKind.wrap_i64]; omega
    have hw2 : IntKind.i64.wrap ((x : Int) * 16) = ((x * 16 : Nat) : Int) := by rw [IntKind.wrap_i64]; omega
    have HH := Lib.hid h4
    have HPT := Lib.hid (fun w' (h : IsPar B w' pb rb v l (at_ + 4) deep os) (hb : B ≤ w'.heap.size) (hx : ¬ l.length - (at_ + 4) < x * 16) => points_rd little x w' h hb (by omega))
    clear hp h4
    generalize hdl : l.length - (at_ + 4) = d at HL HPT ⊢
    have hdm : d ≤ 140737488355328 := by omega
    go_enter Tryd.func130, Tryd.ntmps130
    go_wp2_with fail
    refine HA.out.mono ?_
    rintro e w' ⟨rfl, rfl⟩
    go_wp2_with fail
    refine HN.out.mono ?_
    rw [if_neg HH.out]
    rintro e w1 ⟨hb1, u1, rfl, _, hp1, hk1⟩
    have c0 := hp1.c0
    have HP1 := Lib.hid hp1
    clear hp1
    go_wp2_with fail
    refine (HW.out _ HP1.out.rd).mono ?_
    rintro e w2 ⟨rfl, hr, hg⟩
    have HS := Lib.hid (HP1.out.step hr hg)
    have c0 := HS.out.1.c0
    have HB := Lib.hid (hb1.trans HS.out.2.2)
    have HK := Lib.hid (hk1.trans HS.out.2.1)
    clear hr hg hb1 hk1
    by_cases hx0 : x = 0
    · subst hx0
      go_wp2
      exact ⟨rfl, HB.out, rfl⟩
    · have hxi : ¬ (x : Int) = 0 := by omega
      go_wp2_with fail
      refine (HL.out _ HS.out.1.rd).mono ?_
      rintro e w' ⟨rfl, k, rfl⟩
      have c0 := (HS.out.1.drewN k).c0
      by_cases hy : d < x * 16
      · go_wp2
        exact ⟨rfl, below_drewN HB.out _, rfl⟩
      · go_wp2_with fail
        refine (HPT.out _ (HS.out.1.drewN k) (Nat.le_trans hB HB.out.size) hy).mono ?_
        cases hq : ptsR l little x (at_ + 4) with
        | error er =>
          rintro e w3 ⟨hb3, he⟩
          cases he
          go_wp2
          exact ⟨rfl, (below_drewN HB.out k).trans hb3, rfl⟩
        | ok r =>
          rintro e w3 ⟨hb3, u3, rfl, hv3, hp3, hk3⟩
          have HV := Lib.hid (And.intro hv3.1 (And.intro hp3 hk3))
          clear hv3 hp3 hk3
          go_wp2
          go_ret
          exact ⟨(below_drewN HB.out k).trans hb3, _, rfl, HV.out.1.mono fun _ _ h => h.of HB.out.size, HV.out.2.1, HK.out.trans HV.out.2.2⟩

set_option maxRecDepth 100000 in
theorem place_any {B pb rb at_ : Nat} {v : Value} {l : List UInt8} {deep : Int} {os : List Bool} (little : Bool) (w : World) (hp : IsPar B w pb rb v l at_ deep os) (hB : B ≤ w.heap.size) :
    Calls Tryd.prog 127 #[.pointer (some ⟨pb, 0, none⟩), .bool little] w
      (PPost B w pb rb v l deep (fun x u w' => PtsN (NewR w w' pb rb) w' u x) ((placeR l little at_).map fun x => (x.1, x.2, os))) := by
  have c0 := hp.c0
  have HA := Lib.hid (At_any w hp.rd)
  have HN := Lib.hid (need_any 8 w hp)
  have HP := Lib.hid hp
  unfold placeR
  by_cases h8 : l.length - at_ < 8
  · rw [if_pos h8]
    have HH := Lib.hid h8
    clear hp h8
    go_enter Tryd.func127, Tryd.ntmps127
    go_wp2_with fail
    refine HA.out.mono ?_
    rintro e w' ⟨rfl, rfl⟩
    go_wp2_with fail
    refine HN.out.mono ?_
    rw [if_pos HH.out]
    rintro e w' ⟨hb, he⟩
    cases he
    have HB := Lib.hid hb
    clear hb
    go_wp2
    exact ⟨rfl, HB.out, rfl⟩
  · rw [if_neg h8]
    have hl8 : at_ + 8 ≤ l.length := by omega
    have HH := Lib.hid h8
    have hd : l.length ≤ 140737488355328 := by obtain ⟨A, c, _, _, h, _⟩ := hp.bytes; omega
    have hwl := wd_lt l at_ 8 little
    have HW := Lib.hid (fun w' (h : IsRd w' rb v l at_) => Word64_any little w' h hl8)
    change Hid (∀ w' (h : IsRd w' rb v l at_), Calls _ _ _ _ fun e w'' => e = .returned (.int .u64 (wd l at_ 8 little)) ∧ _) at HW
    generalize wd l at_ 8 little = x at hwl HW ⊢
    have HN2 := Lib.hid (fun w' (h : IsPar B w' pb rb v l (at_ + 8) deep os) => need_any 8 w' h)
    clear hp h8
    by_cases h16 : l.length - (at_ + 8) < 8
    · rw [if_pos h16]
      have HH2 := Lib.hid h16
      clear h16
      go_enter Tryd.func127, Tryd.ntmps127
      go_wp2_with fail
      refine HA.out.mono ?_
      rintro e w' ⟨rfl, rfl⟩
      go_wp2_with fail
      refine HN.out.mono ?_
      rw [if_neg HH.out]
      rintro e w1 ⟨hb1, u1, rfl, _, hp1, hk1⟩
      have c0 := hp1.c0
      have HP1 := Lib.hid hp1
      clear hp1
      go_wp2_with fail
      refine (HW.out _ HP1.out.rd).mono ?_
      rintro e w2 ⟨rfl, hr, hg⟩
      have HS := Lib.hid (HP1.out.step hr hg)
      have c0 := HS.out.1.c0
      have HB := Lib.hid (hb1.trans HS.out.2.2)
      clear hr hg hb1 hk1
      go_wp2_with fail
      refine (HN2.out _ HS.out.1).mono ?_
      rw [if_pos HH2.out]
      rintro e w' ⟨hb, he⟩
      cases he
      go_wp2
      exact ⟨rfl, HB.out.trans hb, rfl⟩
    · rw [if_neg h16]
      have HH2 := Lib.hid h16
      have hwl2 := wd_lt l (at_ + 8) 8 little
      have HW2 := Lib.hid (fun w' (h : IsRd w' rb v l (at_ + 8)) => Word64_any little w' h (by omega))
      change Hid (∀ w' (h : IsRd w' rb v l (at_ + 8)), Calls _ _ _ _ fun e w'' => e = .returned (.int .u64 (wd l (at_ + 8) 8 little)) ∧ _) at HW2
      generalize wd l (at_ + 8) 8 little = y at hwl2 HW2 ⊢
      have HCX := Lib.hid (fun W => cls_any x W (by simpa using hwl))
      have HCY := Lib.hid (fun W => cls_any y W (by simpa using hwl2))
      have hpo : PtOk (x, y) := ⟨by simpa using hwl, by simpa using hwl2⟩
      have HPO := Lib.hid hpo
      clear h16 hpo hwl hwl2
      generalize hcx : cls x = cx at HCX ⊢
      generalize hcy : cls y = cy at HCY ⊢
      clear hcx hcy
      go_enter Tryd.func127, Tryd.ntmps127
      go_wp2_with fail
      refine HA.out.mono ?_
      rintro e w' ⟨rfl, rfl⟩
      go_wp2_with fail
      refine HN.out.mono ?_
      rw [if_neg HH.out]
      rintro e w1 ⟨hb1, u1, rfl, _, hp1, hk1⟩
      have c0 := hp1.c0
      have HP1 := Lib.hid hp1
      clear hp1
      go_wp2_with fail
      refine (HW.out _ HP1.out.rd).mono ?_
      rintro e w2 ⟨rfl, hr, hg⟩
      have HS := Lib.hid (HP1.out.step hr hg)
      have c0 := HS.out.1.c0
      have HB := Lib.hid (hb1.trans HS.out.2.2)
      have HK := Lib.hid (hk1.trans HS.out.2.1)
      clear hr hg hb1 hk1
      go_wp2_with fail
      refine (HN2.out _ HS.out.1).mono ?_
      rw [if_neg HH2.out]
      rintro e w3 ⟨hb3, u3, rfl, _, hp3, hk3⟩
      have c0 := hp3.c0
      have HP3 := Lib.hid hp3
      clear hp3
      go_wp2_with fail
      refine (HW2.out _ HP3.out.rd).mono ?_
      rintro e w4 ⟨rfl, hr, hg⟩
      have HS4 := Lib.hid (HP3.out.step hr hg)
      have c0 := HS4.out.1.c0
      have HB4 := Lib.hid (HB.out.trans (hb3.trans HS4.out.2.2))
      have HK4 := Lib.hid (HK.out.trans (hk3.trans HS4.out.2.1))
      clear hr hg hb3 hk3
      have hwa : IntKind.i64.wrap ((at_ : Int) + 8) = (at_ : Int) + 8 := by rw [IntKind.wrap_i64]; omega
      by_cases hx4 : cx = 4
      · subst hx4
        by_cases hy4 : cy = 4
        · subst hy4
          go_wp2_with (first | (go_at_call_of 121 x; refine (HCX.out _).mono ?_; rintro e w' ⟨rfl, rfl⟩) | (go_at_call_of 121 y; refine (HCY.out _).mono ?_; rintro e w' ⟨rfl, rfl⟩) | fail)
          go_ret
          exact ⟨HB4.out, _, rfl, PtsN.nil _ _, by rw [show at_ + 16 = at_ + 8 + 8 by omega]; exact HS4.out.1, HK4.out⟩
        · go_wp2_with (first | (go_at_call_of 121 x; refine (HCX.out _).mono ?_; rintro e w' ⟨rfl, rfl⟩) | (go_at_call_of 121 y; refine (HCY.out _).mono ?_; rintro e w' ⟨rfl, rfl⟩) | fail)
          exact ⟨rfl, HB4.out, rfl⟩
      · by_cases hx3 : 3 ≤ cx
        · go_wp2_with (first | (go_at_call_of 121 x; refine (HCX.out _).mono ?_; rintro e w' ⟨rfl, rfl⟩) | (go_at_call_of 121 y; refine (HCY.out _).mono ?_; rintro e w' ⟨rfl, rfl⟩) | fail)
          exact ⟨rfl, HB4.out, rfl⟩
        · by_cases hy3 : 3 ≤ cy
          · go_wp2_with (first | (go_at_call_of 121 x; refine (HCX.out _).mono ?_; rintro e w' ⟨rfl, rfl⟩) | (go_at_call_of 121 y; refine (HCY.out _).mono ?_; rintro e w' ⟨rfl, rfl⟩) | fail)
            exact ⟨rfl, HB4.out, rfl⟩
          · go_wp2_with (first | (go_at_call_of 121 x; refine (HCX.out _).mono ?_; rintro e w' ⟨rfl, rfl⟩) | (go_at_call_of 121 y; refine (HCY.out _).mono ?_; rintro e w' ⟨rfl, rfl⟩) | fail)
            go_ret
            obtain ⟨w5, hw5⟩ : ∃ w5, w5 = w4.alloc (.cells #[.int .u64 x, .int .u64 y] 71) := ⟨_, rfl⟩
            rw [← hw5]
            have hal : Below w4.heap.size w4 w5 := by subst hw5; exact (Below.refl _ w4).alloc (Nat.le_refl _) _
            have hcs : ∀ j c, #[Value.int .u64 x, Value.int .u64 y][j]? = some c → w5.cell? ⟨w4.heap.size, j, none⟩ = some c := by subst hw5; intro j c h; rw [World.cell?_alloc_mark]; exact h
            have hx5 : w5.heap[w4.heap.size]? = some (.cells #[.int .u64 x, .int .u64 y] 71 (0, 0)) := by subst hw5; exact World.alloc_heap_new _ _
            have hap := HS4.out.1.apt hal w4.heap.size (Nat.le_refl _) (lt_of_cell (hcs 0 _ rfl))
            refine ⟨HB4.out.trans (hal.mono (Nat.le_trans hB HB4.out.size)), _, rfl, ⟨⟨?_, _, _, rfl, Nat.le_refl _, by simp, .inr ⟨w4.heap.size, 0, rfl, ⟨hap, HB4.out.size⟩, fun j c h => by rw [Nat.zero_add]; exact hcs j c (by simpa [ptCells] using h)⟩⟩, ⟨rfl, .inr ⟨w4.heap.size, 1, _, rfl, Nat.zero_le _, hx5, Nat.le_refl _, by unfold maxLen; omega, rfl, rfl⟩⟩, fun b e => by cases e; exact ⟨hap, HB4.out.size⟩⟩, ?_, HK4.out.trans (KeepR.of_below HS4.out.1.lt hal)⟩
            · intro p hp; simp at hp; subst hp; exact HPO.out
            · rw [show at_ + 16 = at_ + 8 + 8 by omega]; exact HS4.out.1.below hal
end Go.Proofs.YtlffgepnhhnadaaDoor.Pl
