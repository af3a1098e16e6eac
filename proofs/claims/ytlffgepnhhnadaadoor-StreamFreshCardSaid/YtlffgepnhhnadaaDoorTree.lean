/- tree's small looks, walked: finite, fits, own, lists. What is handed in lies as lists (Mem). -/
import Derived.Test.YtlffgepnhhnadaaDoorF64
import Derived.OwnWalk
namespace Go.Proofs.YtlffgepnhhnadaaDoor.Pl
open Go.RowKit

theorem Tryd.cells71x : Tryd.prog.cellsOf 71 = 2 := by kernel_rfl
theorem Tryd.cells51x : Tryd.prog.cellsOf 51 = 4 := by kernel_rfl

theorem ret_bool {a b : Bool} (h : a = b) : Ending.returned (.bool a) = .returned (.bool b) := by rw [h]
theorem ret_int {k : IntKind} {a b : Int} (h : a = b) : Ending.returned (.int k a) = .returned (.int k b) := by rw [h]

def finP (p : Pt) : Bool := decide (cls p.1 ≤ 2) && decide (cls p.2 ≤ 2)

theorem all_no {α : Type} {f : α → Bool} {l : List α} {k : Nat} {p : α} (h : l[k]? = some p) (hf : f p = false) : l.all f = false :=
  List.all_eq_false.2 ⟨p, List.mem_of_getElem? h, by simp [hf]⟩
theorem all_next {α : Type} {f : α → Bool} {l : List α} {k : Nat} {p : α} (h : l[k]? = some p) (hf : f p = true) (ht : (l.take k).all f = true) : (l.take (k + 1)).all f = true := by
  rw [List.take_add_one, h, List.all_append, ht]; simp [hf]
theorem all_end {α : Type} {f : α → Bool} {l : List α} {k : Nat} (hk : k ≤ l.length) (hn : ¬ k < l.length) (ht : (l.take k).all f = true) : l.all f = true := by
  rwa [List.take_of_length_le (by omega)] at ht

set_option maxRecDepth 100000 in
theorem finite_any {ok : Nat → Prop} {v : Value} {l : List Pt} (w : World) (hv : Pts ok w v l) :
    Calls Tryd.prog 106 #[v] w fun e w' => e = .returned (.bool (l.all finP)) ∧ Below w.heap.size w w' := by
  obtain ⟨hp, hv⟩ := hv
  by_cases hn : l = []
  · subst hn
    obtain ⟨A, c, rfl, _, _, _⟩ := hv
    go_enter Tryd.func106, Tryd.ntmps106
    go_wp2
    go_loop [7] (fun i => i = .int .i64 0) (fun _ => 0)
    case atStart => rfl
    case round =>
      subst hrel
      go_wp2
      go_ret
      exact ⟨rfl, Below.refl _ _⟩
  · obtain ⟨b, o, c, rfl, hc, hl, _, hb, hcell⟩ := hv.open (by intro h; have := ptCells_length l; rw [h] at this; have := List.length_pos_iff.2 hn; simp at *; omega)
    have HC := Lib.hid hcell
    have HP := Lib.hid hp
    clear hcell hp hv
    go_enter Tryd.func106, Tryd.ntmps106
    go_wp2
    go_loopw [7] (fun i wr => ∃ k : Nat, k ≤ l.length ∧ i = .int .i64 k ∧ Hid ((l.take k).all finP = true) ∧ Below w.heap.size w wr) (fun i _ => l.length - (intOf i).toNat)
    case atStart => exact ⟨0, Nat.zero_le _, rfl, by simp [Hid], Below.refl _ _⟩
    case round =>
      obtain ⟨k, hk, rfl, HT, hbl⟩ := hrel
      by_cases hlt : k < l.length
      · obtain ⟨p, hpk⟩ : ∃ p, l[k]? = some p := ⟨_, List.getElem?_eq_getElem hlt⟩
        obtain ⟨g1, g2⟩ := pt_cells HC.out k p hpk
        have c1 := (hbl.cell (p := ⟨b, o + k * 2, none⟩) hb).trans g1
        have c2 := (hbl.cell (p := ⟨b, o + k * 2 + 1, none⟩) hb).trans g2
        have hpo := HP.out p (List.mem_of_getElem? hpk)
        have HPK := Lib.hid hpk
        have H1 := Lib.hid (fun w => cls_any p.1 w hpo.1)
        have H2 := Lib.hid (fun w => cls_any p.2 w hpo.2)
        have hn1 := cls_nonneg p.1
        have hn2 := cls_nonneg p.2
        clear g1 g2 hpk hpo
        by_cases h1 : cls p.1 ≤ 2
        · have h1' : ¬ (2 < cls p.1) := by omega
          by_cases h2 : cls p.2 ≤ 2
          · have h2' : ¬ (2 < cls p.2) := by omega
            have HF : Hid (finP p = true) := by simp [Hid, finP, h1, h2]
            go_wp2_with fail
            refine (H1.out _).mono ?_
            rintro e w1 ⟨rfl, rfl⟩
            go_wp2_with fail
            refine (H2.out _).mono ?_
            rintro e w1 ⟨rfl, rfl⟩
            go_wp2
            go_roundw
            case rel => exact ⟨k + 1, by omega, by go_num, all_next HPK.out HF.out HT.out, hbl.alloc hbl.size _⟩
            case measure => simp [intOf]; omega
          · have h2' : 2 < cls p.2 := by omega
            have HF : Hid (finP p = false) := by simp [Hid, finP, h2]
            go_wp2_with fail
            refine (H1.out _).mono ?_
            rintro e w1 ⟨rfl, rfl⟩
            go_wp2_with fail
            refine (H2.out _).mono ?_
            rintro e w1 ⟨rfl, rfl⟩
            go_wp2
            go_ret
            exact ⟨ret_bool (all_no HPK.out HF.out).symm, hbl.alloc hbl.size _⟩
        · have h1' : 2 < cls p.1 := by omega
          have HF : Hid (finP p = false) := by simp [Hid, finP, h1]
          go_wp2_with fail
          refine (H1.out _).mono ?_
          rintro e w1 ⟨rfl, rfl⟩
          go_wp2
          go_ret
          exact ⟨ret_bool (all_no HPK.out HF.out).symm, hbl.alloc hbl.size _⟩
      · go_wp2
        go_ret
        exact ⟨ret_bool (all_end hk hlt HT.out).symm, hbl⟩

def fitsB (kind home : Int) : Bool := if home = 4 ∨ home = 5 ∨ home = 6 then decide (kind = home - 3) else true
theorem fits_any (kind home : Int) (w : World) : Calls Tryd.prog 105 #[.int .i64 kind, .int .i64 home] w fun e w' => e = .returned (.bool (fitsB kind home)) ∧ w = w' := by
  unfold fitsB
  by_cases h4 : home = 4
  · subst h4
    go_enter Tryd.func105, Tryd.ntmps105
    go_wp2
    go_ret
    exact ⟨by simp; rfl, rfl⟩
  · have g4 : (home == 4) = false := beq_eq_false_iff_ne.2 h4
    by_cases h5 : home = 5
    · subst h5
      go_enter Tryd.func105, Tryd.ntmps105
      go_wp2
      go_ret
      exact ⟨by simp; rfl, rfl⟩
    · have g5 : (home == 5) = false := beq_eq_false_iff_ne.2 h5
      by_cases h6 : home = 6
      · subst h6
        go_enter Tryd.func105, Tryd.ntmps105
        go_wp2
        go_ret
        exact ⟨by simp; rfl, rfl⟩
      · have g6 : (home == 6) = false := beq_eq_false_iff_ne.2 h6
        go_enter Tryd.func105, Tryd.ntmps105
        go_wp2
        go_ret
        exact ⟨by simp, rfl⟩

/-- a tree's own points -/
def ownN (g : G) : Nat := g.line.length + (g.rings.map List.length).sum

def sumTo (r : List (List Pt)) (k : Nat) : Nat := ((r.take k).map List.length).sum
theorem sumTo_zero (r : List (List Pt)) : sumTo r 0 = 0 := by simp [sumTo]
theorem sumTo_succ (r : List (List Pt)) (k : Nat) (x : List Pt) (h : r[k]? = some x) : sumTo r (k + 1) = sumTo r k + x.length := by
  unfold sumTo; rw [List.take_add_one, h]; simp
theorem sumTo_all (r : List (List Pt)) (k : Nat) (h : r.length ≤ k) : sumTo r k = (r.map List.length).sum := by
  unfold sumTo; rw [List.take_of_length_le h]
theorem sumTo_le (r : List (List Pt)) (k : Nat) : sumTo r k ≤ (r.map List.length).sum := by
  unfold sumTo
  have h := congrArg (fun l : List (List Pt) => (l.map List.length).sum) (List.take_append_drop k r)
  simp only [List.map_append, List.sum_append] at h
  omega

set_option maxRecDepth 100000 in
theorem own_any {ok : Nat → Prop} {b o : Nat} {g : G} (w : World) (hg : AtG ok w b o g) (hs : ownN g ≤ 140737488355328) :
    Calls Tryd.prog 85 #[.pointer (some ⟨b, o, none⟩)] w fun e w' => e = .returned (.int .i64 (ownN g)) ∧ w = w' := by
  obtain ⟨v1, v2, v3, hI, hb, c0, c1, c2, c3⟩ := hg
  obtain ⟨kd, l, r, p⟩ := g
  simp only [IsG, G.kind] at hI c0
  obtain ⟨_, _, _, hv, ⟨hp, A1, k1, hv1, hk1, hl1, hr1⟩, ⟨vs, ⟨A2, k2, hv2, hk2, hl2, hr2⟩, hE⟩, _⟩ := hI
  simp only [List.cons.injEq, and_true, true_and] at hv
  obtain ⟨rfl, rfl, rfl⟩ := hv
  subst hv1 hv2
  have hE2 := hE.length
  simp only [ownN, G.line, G.rings] at hs ⊢
  clear hp hr1
  have HE := Lib.hid hE
  have HR := Lib.hid hr2
  have HS := Lib.hid hs
  clear hE hr2 hs hE2
  go_enter Tryd.func85, Tryd.ntmps85
  go_wp2
  go_loop [3, 16] (fun n i => ∃ k : Nat, k ≤ r.length ∧ i = .int .i64 k ∧ n = .int .i64 ((l.length + sumTo r k : Nat))) (fun _ i => r.length - (intOf i).toNat)
  case atStart => exact ⟨0, Nat.zero_le _, rfl, by rw [sumTo_zero]; rfl⟩
  case round =>
    obtain ⟨k, hk, rfl, rfl⟩ := hrel
    by_cases hlt : k < r.length
    · obtain ⟨x, hx⟩ : ∃ x, r[k]? = some x := ⟨_, List.getElem?_eq_getElem hlt⟩
      obtain ⟨v, hv, _, A, cx, rfl, hc1, hl2, _⟩ := HE.out.at k x hx
      obtain ⟨b2, o2, rfl, _, _, hcell⟩ := HR.out.at (by rintro rfl; simp at hv)
      have cc := hcell k _ hv
      have hsum := sumTo_succ r k x hx
      have hle := sumTo_le r (k + 1)
      have hs := HS.out
      have hb1 : l.length + sumTo r k + x.length ≤ 140737488355328 := by omega
      have HSUM := Lib.hid hsum
      clear hcell hv hx hsum hle hs
      go_wp2
      go_round
      case rel => exact ⟨k + 1, by omega, by go_num, by rw [HSUM.out]; go_num⟩
      case measure => simp [intOf]; omega
    · go_wp2
      go_ret
      exact ⟨ret_int (by rw [sumTo_all _ _ (by omega)]), rfl⟩

/-- has a tree only the lists of its kind, each as it may be? (ne: each ring has a point) -/
def listsN (kd : Int) (nl nr np : Nat) (ne : Bool) : Bool :=
  if kd = 3 then ne && (nl == 0) && (np == 0)
  else if kd = 1 then decide (nl ≤ 1) && (nr == 0) && (np == 0)
  else if kd = 2 then (nr == 0) && (np == 0)
  else if kd = 4 ∨ kd = 5 ∨ kd = 6 ∨ kd = 7 then (nl == 0) && (nr == 0)
  else false
def listsB (g : G) : Bool := listsN g.kind g.line.length g.rings.length g.parts.length (g.rings.all fun r => r.length != 0)

set_option maxHeartbeats 1600000 in
set_option maxRecDepth 100000 in
theorem lists_any {ok : Nat → Prop} {b o : Nat} {g : G} (w : World) (hg : AtG ok w b o g) :
    Calls Tryd.prog 104 #[.pointer (some ⟨b, o, none⟩)] w fun e w' => e = .returned (.bool (listsB g)) ∧ w = w' := by
  obtain ⟨v1, v2, v3, hI, hb, c0, c1, c2, c3⟩ := hg
  obtain ⟨kd, l, r, p⟩ := g
  simp only [IsG, G.kind] at hI c0
  obtain ⟨_, _, _, hv, ⟨_, A1, k1, hv1, hk1, hl1, _⟩, ⟨vs, ⟨A2, k2, hv2, hk2, hl2, hr2⟩, hE⟩, ps, ⟨A3, k3, hv3, hk3, hl3, _⟩, _⟩ := hI
  simp only [List.cons.injEq, and_true, true_and] at hv
  obtain ⟨rfl, rfl, rfl⟩ := hv
  subst hv1 hv2 hv3
  simp only [listsB, G.line, G.rings, G.parts, G.kind]
  by_cases h3 : kd = 3
  · subst h3
    have HE := Lib.hid hE
    have HR := Lib.hid hr2
    clear hE hr2
    generalize hnr : r.length = nr at *
    generalize l.length = nl at *
    generalize p.length = np at *
    have HN := Lib.hid hnr
    clear hnr
    go_enter Tryd.func104, Tryd.ntmps104
    go_wp2
    go_loop [56] (fun i => ∃ k : Nat, k ≤ nr ∧ i = .int .i64 k ∧ Hid ((r.take k).all (fun r => r.length != 0) = true)) (fun i => nr - (intOf i).toNat)
    case atStart => exact ⟨0, Nat.zero_le _, rfl, by simp [Hid]⟩
    case round =>
      obtain ⟨k, hk, rfl, HT⟩ := hrel
      by_cases hlt : k < nr
      · obtain ⟨x, hx⟩ : ∃ x, r[k]? = some x := ⟨_, List.getElem?_eq_getElem (by rw [HN.out]; exact hlt)⟩
        obtain ⟨v, hv, _, A, cx, rfl, hc1, hl2, _⟩ := HE.out.at k x hx
        obtain ⟨b2, o2, rfl, _, _, hcell⟩ := HR.out.at (by rintro rfl; simp at hv)
        have cc := hcell k _ hv
        have HX := Lib.hid hx
        clear hcell hv hx
        generalize hnx : x.length = nx at *
        have HNX := Lib.hid hnx
        clear hnx
        by_cases h0 : nx = 0
        · subst h0
          go_wp2
          go_ret
          refine ⟨ret_bool ?_, rfl⟩
          rw [listsN, if_pos rfl, all_no (f := fun r : List Pt => r.length != 0) HX.out (by simp only [HNX.out]; rfl)]
          rfl
        · have h0' : ((nx : Int) == 0) = false := beq_eq_false_iff_ne.2 (by omega)
          go_wp2
          go_round
          case rel => exact ⟨k + 1, by omega, by go_num, all_next HX.out (by simp only [HNX.out]; simpa using h0) HT.out⟩
          case measure => simp [intOf]; omega
      · have ha := all_end (f := fun r : List Pt => r.length != 0) (by rw [HN.out]; exact hk) (by rw [HN.out]; exact hlt) HT.out
        have HA := Lib.hid ha
        clear ha
        go_wp2
        all_goals
          go_ret
          refine ⟨ret_bool ?_, rfl⟩
          rw [listsN, if_pos rfl, HA.out, Bool.eq_iff_iff]; simp; try omega
  · have g3 : (kd == 3) = false := beq_eq_false_iff_ne.2 h3
    clear hE hr2
    generalize r.length = nr at *
    generalize l.length = nl at *
    generalize p.length = np at *
    generalize (r.all fun r => r.length != 0) = ne
    unfold listsN
    rw [if_neg h3]
    by_cases h1 : kd = 1
    · subst h1
      go_enter Tryd.func104, Tryd.ntmps104
      go_wp2
      all_goals
        go_ret
        refine ⟨ret_bool ?_, rfl⟩
        rw [Bool.eq_iff_iff]; simp; try omega
    · have g1 : (kd == 1) = false := beq_eq_false_iff_ne.2 h1
      rw [if_neg h1]
      by_cases h2 : kd = 2
      · subst h2
        go_enter Tryd.func104, Tryd.ntmps104
        go_wp2
        all_goals
          go_ret
          refine ⟨ret_bool ?_, rfl⟩
          rw [Bool.eq_iff_iff]; simp; try omega
      · have g2 : (kd == 2) = false := beq_eq_false_iff_ne.2 h2
        rw [if_neg h2]
        by_cases h4 : kd = 4 ∨ kd = 5 ∨ kd = 6 ∨ kd = 7
        · rw [if_pos h4]
          rcases h4 with rfl | rfl | rfl | rfl
          all_goals
            go_enter Tryd.func104, Tryd.ntmps104
            go_wp2
            all_goals
              go_ret
              refine ⟨ret_bool ?_, rfl⟩
              rw [Bool.eq_iff_iff]; simp; try omega
        · rw [if_neg h4]
          have g4 : (kd == 4) = false := beq_eq_false_iff_ne.2 (by omega)
          have g5 : (kd == 5) = false := beq_eq_false_iff_ne.2 (by omega)
          have g6 : (kd == 6) = false := beq_eq_false_iff_ne.2 (by omega)
          have g7 : (kd == 7) = false := beq_eq_false_iff_ne.2 (by omega)
          go_enter Tryd.func104, Tryd.ntmps104
          go_wp2
          go_ret
          exact ⟨rfl, rfl⟩
end Go.Proofs.YtlffgepnhhnadaaDoor.Pl
