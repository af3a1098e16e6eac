/- plumbref17's small readers, walked: finite, isNaN, member, count, a pair, pairs, a spot. -/
import Derived.Test.YtlffgepnhhnadaaDoorRfA
namespace Go.Proofs.YtlffgepnhhnadaaDoor.Pl
open Go.RowKit
variable {oc oc0 : Nat}

theorem rfin_any (b : Nat) (w : World) (hb : b < 18446744073709551616) :
    Calls Tryd.prog 143 #[.int .u64 b] w fun e w' => e = .returned (.bool (decide (cls b < 3))) ∧ w = w' := by
  have h1 := u64_low11 ((b : Int) / 4503599627370496) (by omega) (by omega)
  have h2 : ((b : Int) / 4503599627370496 % 2048 != 2047) = decide (cls b < 3) := by
    have he : (b : Int) / 4503599627370496 % 2048 = ((b / 4503599627370496 % 2048 : Nat) : Int) := by omega
    have hl : b / 4503599627370496 % 2048 < 2048 := Nat.mod_lt _ (by decide)
    rw [he]
    unfold cls
    generalize b / 4503599627370496 % 2048 = e at *
    rw [Bool.eq_iff_iff]
    simp only [bne_iff_ne, ne_eq, decide_eq_true_eq]
    repeat' split
    all_goals omega
  have H1 := Lib.hid h1
  have H2 := Lib.hid h2
  clear h1 h2
  go_enter Tryd.func143, Tryd.ntmps143
  go_wp2
  go_ret
  refine ⟨?_, rfl⟩
  simp only [Array.getD, H1.out, H2.out]
  rfl
theorem nan_any (b : Nat) (w : World) (hb : b < 18446744073709551616) :
    Calls Tryd.prog 142 #[.int .u64 b] w fun e w' => e = .returned (.bool (decide (cls b = 4))) ∧ w = w' := by
  have h1 := u64_low52 (b : Int) (by omega) (by omega)
  have hf := rfin_any b w hb
  have h3 : cls b < 3 → ¬ cls b = 4 := by omega
  have h4 : ¬ cls b < 3 → ((b : Int) % 4503599627370496 != 0) = decide (cls b = 4) := by
    have he : (b : Int) % 4503599627370496 = ((b % 4503599627370496 : Nat) : Int) := by omega
    have hl : b / 4503599627370496 % 2048 < 2048 := Nat.mod_lt _ (by decide)
    rw [he]
    unfold cls
    generalize b / 4503599627370496 % 2048 = e at *
    generalize b % 4503599627370496 = f at *
    rw [Bool.eq_iff_iff]
    simp only [bne_iff_ne, ne_eq, decide_eq_true_eq]
    repeat' split
    all_goals omega
  have HF := Lib.hid hf
  have H1 := Lib.hid h1
  have H3 := Lib.hid h3
  have H4 := Lib.hid h4
  clear h1 hf h3 h4
  by_cases hc : cls b < 3
  · have hd : decide (cls b < 3) = true := decide_eq_true hc
    rw [hd] at HF
    go_enter Tryd.func142, Tryd.ntmps142
    go_wp2_with (go_at_call 143; refine HF.out.mono ?_; rintro e w1 ⟨rfl, rfl⟩)
    go_ret
    exact ⟨ret_bool (by simp [H3.out hc]), rfl⟩
  · have hd : decide (cls b < 3) = false := decide_eq_false hc
    rw [hd] at HF
    go_enter Tryd.func142, Tryd.ntmps142
    go_wp2_with (go_at_call 143; refine HF.out.mono ?_; rintro e w1 ⟨rfl, rfl⟩)
    go_ret
    exact ⟨ret_bool (by rw [← H4.out hc, ← H1.out]), rfl⟩
theorem memb_any (home kind : Int) (w : World) (hh : home = 0 ∨ 4 ≤ home ∧ home ≤ 7) : Calls Tryd.prog 133 #[.int .i64 home, .int .i64 kind] w fun e w' => e = .returned (.bool (memberB home kind)) ∧ w = w' := by
  have h5 : home = 0 ∨ home = 4 ∨ home = 5 ∨ home = 6 ∨ home = 7 := by omega
  rcases h5 with rfl | rfl | rfl | rfl | rfl
  all_goals
    go_enter Tryd.func133, Tryd.ntmps133
    go_wp2
    go_ret
    refine ⟨ret_bool ?_, rfl⟩
    simp [memberB]
    try (rw [Bool.eq_iff_iff]; simp)

/-- what a reader of the walk's gives -/
def WPost {α : Type} (B : Nat) (w : World) (wb : Nat) (v : Value) (l : List UInt8) (deep : Int) (val : α → Value → World → Prop) (r : Except PErr (α × Nat)) (e : Ending) (w' : World) : Prop :=
  ∃ x u a er oc, e = .returned u ∧ val x u w' ∧ IsWk B w' wb v l a deep er oc ∧ StepW B wb w w' ∧ match r with
    | .ok y => x = y.1 ∧ a = y.2 ∧ er = none
    | .error z => er = some z

/-- a count's law; a ring's is not 0 -/
def cntR (l : List UInt8) (lt : Bool) (least : Nat) (ring : Bool) (at_ : Nat) : Except PErr (Nat × Nat) :=
  if l.length - at_ < 4 then .error (at_, 160) else if ring = true ∧ wd l at_ 4 lt = 0 then .error (at_, 176) else if l.length - (at_ + 4) < wd l at_ 4 lt * least then .error (at_, 173) else .ok (wd l at_ 4 lt, at_ + 4)
theorem cnt_plain (l : List UInt8) (lt : Bool) (least at_ : Nat) : cntR l lt least false at_ = countR l lt least at_ := by simp [cntR, countR]
theorem cnt_ring (l : List UInt8) (lt : Bool) (at_ : Nat) : ringR l lt at_ = match cntR l lt 16 true at_ with | .error e => .error e | .ok (n, a) => ptsR l lt n a := by
  unfold ringR cntR
  simp only [true_and]
  split
  · rfl
  split
  · rfl
  split
  · rfl
  · rfl

set_option maxRecDepth 100000 in
theorem cnt_any {B wb at_ : Nat} {v : Value} {l : List UInt8} {deep : Int} (little : Bool) (least : Nat) (ring : Bool) (hle : least ≤ 30) (w : World) (h : IsWk B w wb v l at_ deep none oc) :
    Calls Tryd.prog 136 #[.pointer (some ⟨wb, 0, none⟩), .bool little, .int .i64 least, .bool ring] w
      (WPost B w wb v l deep (fun n u _ => u = .int .i64 (n : Nat) ∧ n < 4294967296) (cntR l little least ring at_)) := by
  have c1 := h.c1
  have hd := h.len
  have H := Lib.hid h
  by_cases h4 : l.length - at_ < 4
  · have HRR : Hid (cntR l little least ring at_ = .error ((at_ : Int), 160)) := Lib.hid (by unfold cntR; rw [if_pos h4])
    have HN := Lib.hid (num_short 4 little w h h4)
    clear h h4
    go_enter Tryd.func136, Tryd.ntmps136
    go_wp2_with fail
    refine HN.out.mono ?_
    rintro e w1 ⟨rfl, h1, s1⟩
    have c3 : w1.cell? ⟨wb, 3, none⟩ = some (.int .i64 160) := h1.c3
    have H1 := Lib.hid (And.intro h1 s1)
    clear h1 s1
    go_wp2
    go_ret
    exact ⟨0, _, _, _, _, rfl, ⟨rfl, by decide⟩, H1.out.1, H1.out.2, by rw [HRR.out]⟩
  have hl4 : at_ + 4 ≤ l.length := by have := h.le; omega
  have hwl := wd_lt l at_ 4 little
  have HN := Lib.hid (num_got 4 little w h (by omega) hl4)
  have HR : Hid ((ring = true ∧ wd l at_ 4 little = 0 → cntR l little least ring at_ = .error ((at_ : Int), 176)) ∧ (¬ (ring = true ∧ wd l at_ 4 little = 0) → l.length - (at_ + 4) < wd l at_ 4 little * least → cntR l little least ring at_ = .error ((at_ : Int), 173)) ∧
      (¬ (ring = true ∧ wd l at_ 4 little = 0) → ¬ l.length - (at_ + 4) < wd l at_ 4 little * least → cntR l little least ring at_ = .ok (wd l at_ 4 little, at_ + 4))) := Lib.hid (by
    unfold cntR
    rw [if_neg h4]
    exact ⟨fun h1 => by rw [if_pos h1], fun h1 h2 => by rw [if_neg h1, if_pos h2], fun h1 h2 => by rw [if_neg h1, if_neg h2]⟩)
  generalize wd l at_ 4 little = x at hwl HN HR
  have hxl : x * least ≤ 4294967296 * 30 := Nat.mul_le_mul (by omega) hle
  have hw1 : IntKind.i64.wrap (x : Int) = x := by rw [IntKind.wrap_i64]; omega
  have hw2 : IntKind.i64.wrap ((x : Int) * least) = ((x * least : Nat) : Int) := by rw [IntKind.wrap_i64, ← Int.natCast_mul]; omega
  generalize hxy : x * least = y at hxl hw2 HR
  have HF := Lib.hid (fun (c : Int) (hc : c ≠ 0) W (hW : IsWk B W wb v l (at_ + 4) deep none oc) => fault_any (at_ : Int) c W hW hc)
  clear h h4
  go_enter Tryd.func136, Tryd.ntmps136
  go_wp2_with fail
  refine HN.out.mono ?_
  rintro e w1 ⟨rfl, h1, s1⟩
  have c3 : w1.cell? ⟨wb, 3, none⟩ = some (.int .i64 0) := h1.c3
  have c1 := h1.c1
  obtain ⟨ov, os, hblk, _⟩ := h1.mem
  obtain ⟨A, c, rfl, _, _, _⟩ := h1.bytes
  have c0 : w1.cell? ⟨wb, 0, none⟩ = some (.slice A l.length c) := by simp [World.cell?, hblk]
  have H1 := Lib.hid (And.intro h1 s1)
  clear h1 s1 hblk
  have hdi : (l.length : Int) - (at_ + 4) = ((l.length - (at_ + 4) : Nat) : Int) := by omega
  have hdl : l.length - (at_ + 4) ≤ l.length := Nat.sub_le _ _
  generalize l.length - (at_ + 4) = d at hdi hdl HR
  by_cases hr : ring = true ∧ x = 0
  · have hR := HR.out.1 hr
    have HRR := Lib.hid hR
    obtain ⟨rfl, rfl⟩ := hr
    clear hR
    go_wp2_with fail
    refine (HF.out 176 (by decide) w1 H1.out.1).mono ?_
    rintro e w2 ⟨rfl, h2, s2⟩
    have H2 := Lib.hid (And.intro h2 s2)
    clear h2 s2
    go_wp2
    go_ret
    exact ⟨0, _, _, _, _, rfl, ⟨rfl, by decide⟩, H2.out.1, H1.out.2.trans H2.out.2, by rw [HRR.out]⟩
  · have hx0 : ring = true → ¬ (x : Int) = 0 := fun h1 h2 => hr ⟨h1, by omega⟩
    by_cases hy : d < y
    · have HRR := Lib.hid (HR.out.2.1 hr hy)
      cases ring
      · go_wp2
        go_quiet (fail)
        go_wp2_with fail
        refine (HF.out 173 (by decide) _ (H1.out.1.drewN _)).mono ?_
        rintro e w2 ⟨rfl, h2, s2⟩
        have H2 := Lib.hid (And.intro h2 s2)
        clear h2 s2
        go_wp2
        go_ret
        exact ⟨0, _, _, _, _, rfl, ⟨rfl, by decide⟩, H2.out.1, H1.out.2.trans H2.out.2.undrew, by rw [HRR.out]⟩
      · have hx0 := hx0 rfl
        go_wp2
        go_quiet (fail)
        go_wp2_with fail
        refine (HF.out 173 (by decide) _ (H1.out.1.drewN _)).mono ?_
        rintro e w2 ⟨rfl, h2, s2⟩
        have H2 := Lib.hid (And.intro h2 s2)
        clear h2 s2
        go_wp2
        go_ret
        exact ⟨0, _, _, _, _, rfl, ⟨rfl, by decide⟩, H2.out.1, H1.out.2.trans H2.out.2.undrew, by rw [HRR.out]⟩
    · have HRR := Lib.hid (HR.out.2.2 hr hy)
      cases ring
      · go_wp2
        go_quiet (fail)
        go_wp2
        go_ret
        exact ⟨x, _, _, _, _, rfl, ⟨rfl, by simpa using hwl⟩, H1.out.1.drewN _, H1.out.2.drewN _, by rw [HRR.out]; exact ⟨rfl, rfl, rfl⟩⟩
      · have hx0 := hx0 rfl
        go_wp2
        go_quiet (fail)
        go_wp2
        go_ret
        exact ⟨x, _, _, _, _, rfl, ⟨rfl, by simpa using hwl⟩, H1.out.1.drewN _, H1.out.2.drewN _, by rw [HRR.out]; exact ⟨rfl, rfl, rfl⟩⟩
end Go.Proofs.YtlffgepnhhnadaaDoor.Pl
