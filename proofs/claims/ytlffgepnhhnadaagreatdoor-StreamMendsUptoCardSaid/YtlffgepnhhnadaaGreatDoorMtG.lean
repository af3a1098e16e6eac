/- The document's pen of any tree; its Mixed and Print, walked. Condition: at most 1048576 geometries, rings and points. -/
import Derived.Test.YtlffgepnhhnadaaGreatDoorMtP
import Derived.Test.YtlffgepnhhnadaaGreatDoorMtCa
import Derived.Test.YtlffgepnhhnadaaGreatDoorMtCb
import Derived.Test.YtlffgepnhhnadaaGreatDoorMtCc
namespace Go.Proofs.YtlffgepnhhnadaaGreatDoor.Pl
open Go.RowKit

theorem pen_any : ∀ (d : Nat) (g : G), PenAt d g := by
  intro d
  induction d with
  | zero =>
    intro g B pb n v l lt cs w hd
    cases g; simp [depth] at hd
  | succ d ih =>
    intro g
    by_cases h1 : g.kind = 1
    · exact pen_pt d g h1
    by_cases h2 : g.kind = 2
    · exact pen_ln d g h2
    by_cases h3 : g.kind = 3
    · exact pen_rg d g h3
    exact pen_gs d ih g h1 h2 h3
theorem chk_ne : ∀ (xs : List It) (a t : Nat) (p e : Int), checkGo xs a t = some (p, e) → e ≠ 0
  | [], _, _, _, _, h => by cases h
  | x :: xs, a, t, p, e, h => by
    simp only [checkGo] at h
    by_cases hw : wrongE x.g x.level x.home ((t + (1 + ownN x.g) : Nat) : Int) = 0
    · rw [if_pos hw] at h; exact chk_ne xs _ _ p e h
    · rw [if_neg hw] at h
      simp only [Option.some.injEq, Prod.mk.injEq] at h
      rw [← h.2]; exact hw
/-- what Mixed and Print give -/
def RPrPost (w : World) (g : G) (lt : Bool) (e : Ending) (w' : World) : Prop := ∃ v c a, e = .returned (.tuple #[v, .int .i64 c, .int .i64 a]) ∧ Below w.heap.size w w' ∧
  match checkR g with
  | some (a', c') => v = .slice none 0 0 ∧ a = a' ∧ c = c'
  | none => OwnB w.heap.size w' v (encG [lt] g 0) ∧ c = 0 ∧ a = -1

set_option maxRecDepth 100000 in
set_option maxHeartbeats 2000000 in
theorem rmixed_any {ok : Nat → Prop} {g : G} {cs : List Value} {b o c : Nat} (lt : Bool) (w : World) (hg : IsG ok w g cs) (hs : sizeG g ≤ 1048576) (hb : b < w.heap.size) (hc : 1 ≤ c) (hcell : w.cell? ⟨b, o, none⟩ = some (.bool lt)) :
    Calls Tryz.prog 46 #[.agg cs.toArray, .slice (some ⟨b, o, none⟩) 1 c] w (RPrPost w g lt) := by
  obtain ⟨i1, D1, m1, r1, D2, m2, r2, D3, m3, r3, rfl⟩ := geom_shape hg
  obtain ⟨w1, hw1⟩ : ∃ w1, w1 = w.alloc (.cells #[.int .i64 i1, .slice D1 m1 r1, .slice D2 m2 r2, .slice D3 m3 r3] 27) := ⟨_, rfl⟩
  have hb1 : Below w.heap.size w w1 := by subst hw1; exact (Below.refl _ w).alloc (Nat.le_refl _) _
  have hx1 : w1.heap[w.heap.size]? = some (.cells #[.int .i64 i1, .slice D1 m1 r1, .slice D2 m2 r2, .slice D3 m3 r3] 27 (0, 0)) := by subst hw1; exact World.alloc_heap_new _ _
  have hlt1 := lt_of_heap hx1
  have HCH := Lib.hid (dcheck_any w1 (hg.keeps (below_keeps hb1 ok)) hs)
  have hbx : ∀ W : World, Below w1.heap.size w1 W → W.cell? ⟨w.heap.size, 0, none⟩ = some (.int .i64 i1) ∧ W.cell? ⟨w.heap.size, 1, none⟩ = some (.slice D1 m1 r1) ∧ W.cell? ⟨w.heap.size, 2, none⟩ = some (.slice D2 m2 r2) ∧ W.cell? ⟨w.heap.size, 3, none⟩ = some (.slice D3 m3 r3) := fun W hW => by
    have k1 := (hW.block _ hlt1).trans hx1
    exact ⟨cell_row (cs := [_, _, _, _]) (j := 0) k1 rfl, cell_row (cs := [_, _, _, _]) (j := 1) k1 rfl, cell_row (cs := [_, _, _, _]) (j := 2) k1 rfl, cell_row (cs := [_, _, _, _]) (j := 3) k1 rfl⟩
  obtain ⟨b0, b1, b2, b3⟩ := hbx w1 (Below.refl _ _)
  have HBX := Lib.hid hbx
  have HB1 := Lib.hid hb1
  have HG := Lib.hid (And.intro hg (And.intro hb (And.intro hc hcell)))
  clear hb1 hx1 hbx hg hb hc hcell
  cases hck : checkR g with
  | some z =>
    obtain ⟨a, e⟩ := z
    have hne := chk_ne _ _ _ _ _ hck
    have hnb : (e == 0) = false := beq_eq_false_iff_ne.2 hne
    rw [hck] at HCH
    have HP : Hid (∀ W, Below w1.heap.size w1 W → RPrPost w g lt (.returned (.tuple #[.slice none 0 0, .int .i64 e, .int .i64 a])) W) := Lib.hid fun W hW => ⟨_, _, _, rfl, HB1.out.trans (hW.mono HB1.out.size), by rw [hck]; exact ⟨rfl, rfl, rfl⟩⟩
    clear hck hne
    go_enter Tryz.func46, Tryz.ntmps46
    go_wp2_with (first
      | (rw [← hw1]
         clear hw1
         go_at_call 11
         go_must (
          refine HCH.out.mono ?_
          rintro e w2 ⟨he, hb2⟩
          simp only [chkV] at he
          subst he
          have HB2 := Lib.hid hb2
          clear hb2)))
    go_ret3
    exact HP.out _ HB2.out
  | none =>
    rw [hck] at HCH
    have hsz := enc_size [lt] g 0
    have hkd := kind_checked g hck (by omega)
    have hbg := begun_size g
    have HCK := Lib.hid hck
    have HZ := Lib.hid (And.intro hsz (And.intro hkd hbg))
    clear hck hsz hkd hbg
    go_enter Tryz.func46, Tryz.ntmps46
    go_upto_region 2 with (first
      | (rw [← hw1]
         clear hw1
         go_at_call 11
         go_must (
          refine HCH.out.mono ?_
          rintro e w2 ⟨he, hb2⟩
          simp only [chkV] at he
          subst he
          have HB2 := Lib.hid hb2
          clear hb2)))
    clear b0 b1 b2 b3 HCH
    obtain ⟨w3, hw3⟩ : ∃ w3, w3 = w2.alloc (.cells #[.slice none 0 0, .int .i64 0, .slice (some ⟨b, o, none⟩) 1 c] 116) := ⟨_, rfl⟩
    have hb3 : Below w2.heap.size w2 w3 := by subst hw3; exact (Below.refl _ _).alloc (Nat.le_refl _) _
    have hx3 : w3.heap[w2.heap.size]? = some (.cells #[.slice none 0 0, .int .i64 0, .slice (some ⟨b, o, none⟩) 1 c] 116 (0, 0)) := by subst hw3; exact World.alloc_heap_new _ _
    have hs1 := HB1.out.size
    have hs2 := HB2.out.size
    have hs3 := hb3.size
    have hl3 := lt_of_heap hx3
    have hbw : Below w.heap.size w w3 := (HB1.out.trans (HB2.out.mono hs1)).trans (hb3.mono (by omega))
    have hc30 : w3.cell? ⟨w2.heap.size, 0, none⟩ = some (.slice none 0 0) := cell_row (cs := [_, _, _]) (j := 0) hx3 rfl
    have hapt : ∀ k, k < w2.heap.size → Apt w3 w2.heap.size k := fun k hk => ⟨by omega, by omega, fun u hu e => by rw [hc30] at hu; cases hu; cases e⟩
    have hpn : IsPn w.heap.size w3 w2.heap.size (.slice none 0 0) [] lt 0 := ⟨by omega, ⟨b, o, c, hx3, HG.out.2.2.1, hapt b (by have := HG.out.2.1; omega), (hbw.cell (p := ⟨b, o, none⟩) HG.out.2.1).trans HG.out.2.2.2⟩, ⟨by simp, .inl ⟨rfl, rfl⟩⟩, fun e => by cases e⟩
    have HPN := Lib.hid (pen_any (depth g) g w.heap.size w2.heap.size 0 (.slice none 0 0) [] lt _ w3 (Nat.le_refl _) hpn ((HG.out.1.mono (ok' := fun k => k < w.heap.size) fun k hk _ => hk).keeps (Keeps.of_below hbw) |>.mono fun k _ hk => hapt k (by omega)) HZ.out.2.1 (by have := HZ.out.1; simp only [List.length_nil]; omega) (by have := HZ.out.2.2; omega) (by omega))
    obtain ⟨d0, d1, d2, d3⟩ := HBX.out w3 (HB2.out.trans (hb3.mono hs2))
    have HB3 := Lib.hid hbw
    clear hpn hapt hc30 hx3 hb3 hbw
    go_upto_region 5 with (fail)
    rw [← hw3]
    clear hw3
    go_wp2_with (first
      | (go_at_call 55
         go_must (
          refine HPN.out.mono ?_
          rintro e w4 ⟨rfl, v4, hp4, hk4, hb4⟩
          have e0 := hp4.c0
          have e1 := hp4.fz 0
          have HP4 := Lib.hid (And.intro hp4 hb4)
          clear hp4 hk4 hb4)))
    go_ret3
    refine ⟨_, _, _, rfl, HB3.out.trans HP4.out.2, ?_⟩
    rw [HCK.out]
    refine ⟨?_, rfl, rfl⟩
    have := HP4.out.1.own
    rwa [List.nil_append] at this

set_option maxRecDepth 100000 in
theorem rprint_any {ok : Nat → Prop} {g : G} {cs : List Value} (lt : Bool) (w : World) (hg : IsG ok w g cs) (hs : sizeG g ≤ 1048576) :
    Calls Tryz.prog 31 #[.agg cs.toArray, .bool lt] w (RPrPost w g lt) := by
  obtain ⟨i1, D1, m1, r1, D2, m2, r2, D3, m3, r3, rfl⟩ := geom_shape hg
  obtain ⟨w1, hw1⟩ : ∃ w1, w1 = w.alloc (.cells #[.int .i64 i1, .slice D1 m1 r1, .slice D2 m2 r2, .slice D3 m3 r3] 27) := ⟨_, rfl⟩
  obtain ⟨w2, hw2⟩ : ∃ w2, w2 = w1.alloc (.cells #[.bool lt] 4) := ⟨_, rfl⟩
  have hb1 : Below w.heap.size w w1 := by subst hw1; exact (Below.refl _ w).alloc (Nat.le_refl _) _
  have hb2 : Below w1.heap.size w1 w2 := by subst hw2; exact (Below.refl _ w1).alloc (Nat.le_refl _) _
  have hx1 : w1.heap[w.heap.size]? = some (.cells #[.int .i64 i1, .slice D1 m1 r1, .slice D2 m2 r2, .slice D3 m3 r3] 27 (0, 0)) := by subst hw1; exact World.alloc_heap_new _ _
  have hx2 : w2.heap[w1.heap.size]? = some (.cells #[.bool lt] 4 (0, 0)) := by subst hw2; exact World.alloc_heap_new _ _
  have hs1 : w1.heap.size = w.heap.size + 1 := by subst hw1; simp
  have hb12 : Below w.heap.size w w2 := hb1.trans (hb2.mono hb1.size)
  have HM := Lib.hid (rmixed_any lt w2 (hg.keeps (below_keeps hb12 ok)) hs (lt_of_heap hx2) (Nat.le_refl 1) (cell_row (cs := [_]) (j := 0) hx2 rfl))
  have b0 := cell_row (cs := [_, _, _, _]) (j := 0) hx1 rfl
  have b1 := cell_row (cs := [_, _, _, _]) (j := 1) hx1 rfl
  have b2 := cell_row (cs := [_, _, _, _]) (j := 2) hx1 rfl
  have b3 := cell_row (cs := [_, _, _, _]) (j := 3) hx1 rfl
  rw [hs1] at HM
  have HB := Lib.hid hb12
  clear hg hb1 hb2 hx1 hx2 hb12 hs1
  go_enter Tryz.func31, Tryz.ntmps31
  go_wp2_with (first
    | (rw [← hw1, ← hw2]
       clear hw1 hw2
       go_at_call 46
       go_must (
        refine HM.out.mono ?_
        rintro e w3 ⟨v, c, a, rfl, hb3, hr⟩
        have HR := Lib.hid (And.intro hb3 hr)
        clear hb3 hr)))
  go_ret3
  refine ⟨_, _, _, rfl, HB.out.trans (HR.out.1.mono HB.out.size), ?_⟩
  have h := HR.out.2
  cases hck : checkR g with
  | some z => rw [hck] at h; exact h
  | none => rw [hck] at h; exact ⟨OwnB.mono h.1 HB.out.size, h.2⟩
end Go.Proofs.YtlffgepnhhnadaaGreatDoor.Pl
