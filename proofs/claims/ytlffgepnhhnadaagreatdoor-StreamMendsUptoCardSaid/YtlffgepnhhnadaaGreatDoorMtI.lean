/- stream.Mend, walked: a seat without the readers' laws (lines of Mend, ReadW, ReadS). The document's four, Frame and Mend, walked. Condition: at most 1048576 geometries, rings and points; at most 2^29 bytes. plumblaw27.frames and StreamMends, walked. Condition: at most 1048576 geometries, rings and points. plumblaw27.StreamMends, walked. Condition: at most 1048576 geometries, rings and points. -/
import Derived.Test.YtlffgepnhhnadaaGreatDoorApp
import Derived.Deep.DeepMust
import Derived.Test.YtlffgepnhhnadaaGreatDoorMtG
import Derived.Test.YtlffgepnhhnadaaGreatDoorRfI
import Derived.Test.YtlffgepnhhnadaaGreatDoorMtP
import Derived.Test.YtlffgepnhhnadaaGreatDoorRfH
namespace Go.Proofs.YtlffgepnhhnadaaGreatDoor.Pl
section
open Go.RowKit

theorem Bytes.keepB {ok : Nat → Prop} {w w' : World} {v : Value} {l : List UInt8} (h : Bytes ok w v l) (hb : Below w.heap.size w w') : Bytes ok w' v l := Sl.keeps h (below_keeps hb ok)
theorem bytes_from {ok : Nat → Prop} {w : World} {A : Option Addr} {c : Nat} {l : List UInt8} (h : Bytes ok w (.slice A l.length c) l) (k : Nat) (hk : k ≤ l.length) :
    Bytes ok w (.slice (if c = k then A else Option.map (fun x => x.add k) A) (l.length - k) (c - k)) (l.drop k) := by
  obtain ⟨A', c', hv, h1, h2, h3⟩ := h
  cases hv
  by_cases h0 : l.drop k = []
  · have hl : l.length ≤ k := by simpa using h0
    rw [h0]
    exact ⟨_, _, by rw [show l.length - k = 0 by omega]; rfl, by simp, by simp, .inl rfl⟩
  · have hkl : k < l.length := by
      apply Classical.byContradiction; intro h; exact h0 (List.drop_eq_nil_of_le (by omega))
    obtain ⟨b, o, rfl, hb, _, hc⟩ := h3.at (by simp; intro e; subst e; simp at hkl)
    rw [if_neg (by omega)]
    have hb2 : Bytes ok w (.slice (some ⟨b, o, none⟩) l.length c) l := ⟨_, _, rfl, h1, h2, .inr ⟨b, o, rfl, hb, hc⟩⟩
    have := Bytes.drop hb2 k hk
    simpa [addn] using this
theorem IsGs.imp {ok ok' : Nat → Prop} {w w' : World} {gs : List G} {vs : List Value} (h : IsGs ok w gs vs) (k : ∀ b, b < w.heap.size → ok b → ok' b ∧ w'.heap[b]? = w.heap[b]?) : IsGs ok' w' gs vs := by
  have h1 : IsGs (fun b => ok b ∧ b < w.heap.size) w gs vs := h.mono fun b hb hk => ⟨hk, hb⟩
  exact (h1.keeps (w' := w') fun b o hb ho _ => (k b hb.2 hb.1).2.trans ho).mono fun b _ hb => (k b hb.2 hb.1).1
/-- what Mend gives: the trees, and how many bytes it passed over -/
def mendR (d : Int) : Nat → List UInt8 → List G × Nat
  | 0, _ => ([], 0)
  | f + 1, l => if l = [] then ([], 0) else match recR l d with
    | .got g n => (g :: (mendR d f (l.drop n)).1, (mendR d f (l.drop n)).2)
    | _ => ((mendR d f (l.drop 1)).1, 1 + (mendR d f (l.drop 1)).2)
def mend (d : Int) (l : List UInt8) : List G × Nat := mendR d (l.length + 1) l
theorem mendR_fuel (d : Int) : ∀ (f k : Nat) (l : List UInt8), l.length < f → l.length < k → mendR d f l = mendR d k l := by
  intro f
  induction f with
  | zero => intro k l h; omega
  | succ f ih =>
    intro k l h1 h2
    obtain ⟨k, rfl⟩ : ∃ k', k = k' + 1 := ⟨k - 1, by omega⟩
    simp only [mendR]
    by_cases hl : l = []
    · rw [if_pos hl, if_pos hl]
    rw [if_neg hl, if_neg hl]
    have := List.length_pos_iff.2 hl
    cases hr : recR l d with
    | got g n =>
      have := recR_got hr
      simp only
      rw [ih k (l.drop n) (by simp; omega) (by simp; omega)]
    | wait => simp only; rw [ih k (l.drop 1) (by simp; omega) (by simp; omega)]
    | bad a c => simp only; rw [ih k (l.drop 1) (by simp; omega) (by simp; omega)]
theorem mend_nil (d : Int) : mend d [] = ([], 0) := rfl
theorem mend_got {d : Int} {l : List UInt8} {g : G} {n : Nat} (h : recR l d = .got g n) : mend d l = (g :: (mend d (l.drop n)).1, (mend d (l.drop n)).2) := by
  have := recR_got h
  have hl : l ≠ [] := by intro e; subst e; simp at this; omega
  have e : mendR d l.length (l.drop n) = mend d (l.drop n) := mendR_fuel d _ _ _ (by simp; omega) (by simp)
  unfold mend at e ⊢
  simp only [mendR, if_neg hl, h, e]
theorem mendR_skip {d : Int} {f : Nat} {l : List UInt8} (hl : l ≠ []) (h : ∀ g n, recR l d ≠ .got g n) : mendR d (f + 1) l = ((mendR d f (l.drop 1)).1, 1 + (mendR d f (l.drop 1)).2) := by
  rw [mendR, if_neg hl]
  cases hr : recR l d with
  | got g n => exact absurd hr (h g n)
  | wait => rfl
  | bad a c => rfl
theorem mend_skip {d : Int} {l : List UInt8} (hl : l ≠ []) (h : ∀ g n, recR l d ≠ .got g n) : mend d l = ((mend d (l.drop 1)).1, 1 + (mend d (l.drop 1)).2) := by
  have := List.length_pos_iff.2 hl
  unfold mend
  rw [mendR_skip hl h, mendR_fuel d l.length ((l.drop 1).length + 1) (l.drop 1) (by simp; omega) (by simp)]
theorem mend_len (d : Int) : ∀ (k : Nat) (l : List UInt8), l.length ≤ k → (mend d l).1.length ≤ l.length ∧ (mend d l).2 ≤ l.length := by
  intro k
  induction k with
  | zero =>
    intro l h
    have : l = [] := List.eq_nil_of_length_eq_zero (by omega)
    subst this; rw [mend_nil]; simp
  | succ k ih =>
    intro l h
    by_cases hl : l = []
    · subst hl; rw [mend_nil]; simp
    have hp := List.length_pos_iff.2 hl
    by_cases hg : ∃ g n, recR l d = .got g n
    · obtain ⟨g, n, hr⟩ := hg
      have h3 := recR_got hr
      have := ih (l.drop n) (by simp; omega)
      rw [List.length_drop] at this
      rw [mend_got hr]; simp only [List.length_cons]; omega
    · have := ih (l.drop 1) (by simp; omega)
      rw [List.length_drop] at this
      rw [mend_skip hl (fun g n e => hg ⟨g, n, e⟩)]; simp only; omega

/-- what Mend's loop keeps -/
structure MdS (w : World) (gs : List G) (av : Value) (W : World) : Prop where
  below : Below w.heap.size w W
  own : ∃ vs, W.ownsRow w.heap.size 27 4 av gs.length vs ∧ IsGs (fun b => w.heap.size ≤ b ∧ av.ownBlock ≠ some b) W gs vs
theorem MdS.under {w W W' : World} {gs : List G} {av : Value} (h : MdS w gs av W) (hb : Below W.heap.size W W') : MdS w gs av W' := by
  obtain ⟨vs, h1, h2⟩ := h.own
  exact ⟨h.below.trans (hb.mono h.below.size), vs, ownsRow_below h1 hb, h2.keeps (below_keeps hb _)⟩
theorem MdS.next {w W W2 W3 : World} {gs : List G} {av av' : Value} {vs cs : List Value} {g : G} (h : MdS w gs av W) (h1 : W.ownsRow w.heap.size 27 4 av gs.length vs) (h2 : IsGs (fun b => w.heap.size ≤ b ∧ av.ownBlock ≠ some b) W gs vs)
    (hb : Below W.heap.size W W2) (hg : IsG (fun b => W.heap.size ≤ b) W2 g cs) (h3 : W3.ownsRow w.heap.size 27 4 av' (gs.length + 1) (vs ++ cs)) (hgr : W2.grownBy W3 av.ownBlock) (ho : ∀ x, av'.ownBlock = some x → av.ownBlock = some x ∨ x = W2.heap.size) : MdS w (gs ++ [g]) av' W3 := by
  have hs := hb.size
  have hsw := h.below.size
  have hal := World.ownsRow.lt h1
  have hok : ∀ x, x < W2.heap.size → w.heap.size ≤ x ∧ av.ownBlock ≠ some x → (w.heap.size ≤ x ∧ av'.ownBlock ≠ some x) ∧ W3.heap[x]? = W2.heap[x]? := fun x hx hk =>
    ⟨⟨hk.1, fun e => (ho x e).elim hk.2 (fun e => by omega)⟩, hgr.block x hx (fun e => hk.2 e.symm)⟩
  refine ⟨(h.below.trans (hb.mono hsw)).grown hgr (by omega) (fun k e => (hal k e).1), vs ++ cs, by rw [List.length_append]; exact h3, ?_⟩
  have q1 := IsGs.imp (IsGs.keeps (below_keeps hb _) h2) hok
  have q2 : IsG (fun b => (W.heap.size ≤ b) ∧ b < W2.heap.size) W2 g cs := hg.mono fun x hx hk => ⟨hk, hx⟩
  have q3 := IsGs.one ((q2.keeps (w' := W3) fun x o hx ho2 _ => by rw [hgr.block x hx.2 (fun e => by have := (hal x e.symm).2; have := hx.1; omega)]; exact ho2).mono (ok' := fun x => w.heap.size ≤ x ∧ av'.ownBlock ≠ some x) fun x _ hx => ⟨by have := hx.1; omega, fun e => (ho x e).elim (fun e => by have := (hal x e).2; have := hx.1; omega) (fun e => by have := hx.2; omega)⟩)
  exact q1.append q3

set_option maxRecDepth 100000 in
set_option maxHeartbeats 2000000 in
theorem mend_any {ok : Nat → Prop} {v : Value} {B : List UInt8} (d : Int) (w : World) (hv : Bytes ok w v B) (hl : B.length ≤ 536870912) (hg : ErrT w) :
    Calls Tryz.prog 7 #[v, .int .i64 d] w fun e w' => ∃ av, e = .returned (.tuple #[av, .int .i64 (mend d B).2]) ∧ MdS w (mend d B).1 av w' := by
  obtain ⟨A, c, rfl, hc, hl2, hrow⟩ := hv
  have HV := Lib.hid (And.intro (show Bytes ok w (.slice A B.length c) B from ⟨_, _, rfl, hc, hl2, hrow⟩) hg)
  have HML := Lib.hid (mend_len d B.length B (Nat.le_refl _))
  clear hrow hg
  go_enter Tryz.func7, Tryz.ntmps7
  go_wp2_with fail
  go_loopw [8, 6, 7] (fun i av o W => ∃ (q over : Nat) (acc : List G), q ≤ B.length ∧ i = .int .i64 q ∧ o = .int .i64 over ∧ Hid (MdS w acc av W) ∧ Hid (acc ++ (mend d (B.drop q)).1 = (mend d B).1 ∧ over + (mend d (B.drop q)).2 = (mend d B).2)) (fun i _ _ _ => B.length - (intOf i).toNat)
  case atStart => exact ⟨0, 0, [], Nat.zero_le _, rfl, rfl, Lib.hid ⟨Below.refl _ _, [], World.ownsRow_nil _ _ _ _, by simp [IsGs]⟩, Lib.hid ⟨by simp, by simp⟩⟩
  case round =>
    obtain ⟨q, over, acc, hq, rfl, rfl, HS, HE⟩ := hrel
    by_cases hql : q < B.length
    · have hne : B.drop q ≠ [] := by intro e; have h := congrArg List.length e; simp at h; omega
      have hbl := HS.out.below
      have hacc : acc.length ≤ 536870912 := by
        have h := congrArg List.length HE.out.1
        have h2 := HML.out.1
        rw [List.length_append] at h
        generalize (mend d B).1.length = x at h h2
        generalize (mend d (B.drop q)).1.length = y at h
        omega
      have hov : over ≤ 536870912 := by
        have h := HE.out.2
        have h2 := HML.out.2
        generalize (mend d B).2 = x at h h2
        generalize (mend d (B.drop q)).2 = y at h
        omega
      have HR := Lib.hid (record_any d wr (HV.out.2.below hbl) ((bytes_from HV.out.1 q hq).keepB hbl))
      rw [if_neg (show ¬ c = q by omega)] at HR
      obtain ⟨vs, ho1, hg1⟩ := HS.out.own
      have HO1 := Lib.hid (And.intro ho1 hg1)
      have hsw := hbl.size
      have hqi : (q : Int) < (B.length : Int) := by omega
      have hqi0 : (0 : Int) ≤ (q : Int) := by omega
      have hqc : (B.length : Int) ≤ (c : Int) := by omega
      have HNE := Lib.hid hne
      clear ho1 hg1 hbl hne
      go_wp2_with fail
      refine HR.out.mono ?_
      rintro e w1 hp
      obtain ⟨ki, A1, n1, c1, A2, n2, c2, A3, n3, c3, n, fv, rfl, hb1, hm⟩ := recM_of hp
      have hs1 := hb1.size
      cases hr : recR (B.drop q) d with
      | wait =>
          rw [hr] at hm
          obtain ⟨rfl, rfl⟩ := hm
          have HM := Lib.hid (MdS.under (MdS.under HS.out hb1) ((Below.refl w1.heap.size w1).alloc (Nat.le_refl _) (.cells #[.int .i64 ki, .slice A1 n1 c1, .slice A2 n2 c2, .slice A3 n3 c3] 27)))
          have HK := Lib.hid (mend_skip HNE.out (d := d) (by intro g n e; rw [hr] at e; cases e))
          clear hb1 hr hp
          go_wp2_with fail
          go_roundw
          · refine ⟨q + 1, over + 1, acc, hql, by simp, by simp, HM, Lib.hid ?_⟩
            have h := HE.out
            rw [HK.out, List.drop_drop] at h
            simp only at h
            exact ⟨h.1, by rw [← h.2]; generalize (mend d (List.drop (q + 1) B)).2 = x; omega⟩
          · simp [intOf]; omega
      | bad x1 x2 =>
          rw [hr] at hm
          obtain ⟨rfl, fb, rfl, _⟩ := hm
          have HM := Lib.hid (MdS.under (MdS.under HS.out hb1) ((Below.refl w1.heap.size w1).alloc (Nat.le_refl _) (.cells #[.int .i64 ki, .slice A1 n1 c1, .slice A2 n2 c2, .slice A3 n3 c3] 27)))
          have HK := Lib.hid (mend_skip HNE.out (d := d) (by intro g n e; rw [hr] at e; cases e))
          clear hb1 hr hp
          go_wp2_with fail
          go_roundw
          · refine ⟨q + 1, over + 1, acc, hql, by simp, by simp, HM, Lib.hid ?_⟩
            have h := HE.out
            rw [HK.out, List.drop_drop] at h
            simp only at h
            exact ⟨h.1, by rw [← h.2]; generalize (mend d (List.drop (q + 1) B)).2 = x; omega⟩
          · simp [intOf]; omega
      | got g m =>
          rw [hr] at hm
          obtain ⟨hgi, rfl, rfl⟩ := hm
          have hgm := recR_got hr
          have hm0 : ((m : Int) == 0) = false := beq_eq_false_iff_ne.2 (by omega)
          have hml : m ≤ B.length - q := by have := hgm.2; rw [List.length_drop] at this; exact this
          have HK := Lib.hid (mend_got hr)
          obtain ⟨w2, hw2⟩ : ∃ w2, w2 = w1.alloc (.cells #[.int .i64 ki, .slice A1 n1 c1, .slice A2 n2 c2, .slice A3 n3 c3] 27) := ⟨_, rfl⟩
          have hb2 : Below w1.heap.size w1 w2 := by rw [hw2]; exact (Below.refl _ _).alloc (Nat.le_refl _) _
          have hx2 : w2.heap[w1.heap.size]? = some (.cells #[.int .i64 ki, .slice A1 n1 c1, .slice A2 n2 c2, .slice A3 n3 c3] 27 (0, 0)) := by rw [hw2]; exact World.alloc_heap_new _ _
          have hs2 := hb2.size
          have g0 := cell_row (cs := [_, _, _, _]) (j := 0) hx2 rfl
          have g1 := cell_row (cs := [_, _, _, _]) (j := 1) hx2 rfl
          have g2 := cell_row (cs := [_, _, _, _]) (j := 2) hx2 rfl
          have g3 := cell_row (cs := [_, _, _, _]) (j := 3) hx2 rfl
          have ha2 := (Below.refl w2.heap.size w2).alloc (Nat.le_refl _) (.cells #[.int .i64 ki, .slice A1 n1 c1, .slice A2 n2 c2, .slice A3 n3 c3] 27)
          have hxa2 : (w2.alloc (.cells #[.int .i64 ki, .slice A1 n1 c1, .slice A2 n2 c2, .slice A3 n3 c3] 27)).heap[w2.heap.size]? = some (.cells #[.int .i64 ki, .slice A1 n1 c1, .slice A2 n2 c2, .slice A3 n3 c3] 27 (0, 0)) := World.alloc_heap_new _ _
          have hbr2 : Below wr.heap.size wr w2 := hb1.trans (hb2.mono hs1)
          have HO := Lib.hid (And.intro (ownsRow_below (ownsRow_below HO1.out.1 hbr2) ha2) (And.intro hxa2 (And.intro (hbr2.trans (ha2.mono hbr2.size)) (hgi.keeps (below_keeps (hb2.trans (ha2.mono hs2)) _)))))
          clear hb1 hb2 hx2 ha2 hxa2 hbr2 hgi hr hp
          go_upto_region 6 with (fail)
          rw [← hw2]
          clear hw2
          go_wp2_with (first
            | (at_builtin
               go_must (
               refine (list_appendG rfl (.tmp 35) (.tmp 37) rfl u6 (by rfl) (by rfl) HO.out.1 (fun i u hi => cell_row (cs := [_, _, _, _]) HO.out.2.1 hi) (by simp [Value.oneCell']) (by omega) (Nat.le_trans hsw HO.out.2.2.1.size) ?_)
               intro q4 cap4 w4 ho4 hgr4 hq4 hlt4
               have HR4 := Lib.hid (And.intro ho4 (And.intro hgr4 hq4))
               clear ho4 hgr4 hq4))
            | fail)
          go_roundw
          · refine ⟨q + m, over, acc ++ [g], by omega, by simp, rfl, Lib.hid ?_, Lib.hid ?_⟩
            · refine MdS.next HS.out HO1.out.1 HO1.out.2 HO.out.2.2.1 (cs := [_, _, _, _]) HO.out.2.2.2 HR4.out.1 HR4.out.2.1 ?_
              intro x hx
              simp only [Value.ownBlock, Option.some.injEq] at hx
              subst hx
              exact HR4.out.2.2
            · have h := HE.out
              rw [HK.out, List.drop_drop] at h
              simp only at h
              exact ⟨by rw [← h.1]; simp, h.2⟩
          · simp [intOf]; omega
    · have hqe : q = B.length := by omega
      subst hqe
      have he := HE.out
      rw [List.drop_length, mend_nil] at he
      have h1 : acc = (mend d B).1 := by simpa using he.1
      have h2 : over = (mend d B).2 := by simpa using he.2
      have HH := Lib.hid (And.intro h1 h2)
      clear he h1 h2
      have hqi : ¬ (B.length : Int) < (B.length : Int) := by omega
      go_wp2_with fail
      go_ret2
      exact ⟨_, by rw [← HH.out.2]; rfl, by rw [← HH.out.1]; exact HS.out⟩
end
section
open Go.RowKit

/-- four bytes in a block of their own -/
theorem four_own (w : World) (a b c d : UInt8) : OwnB w.heap.size (w.alloc (.cells #[bv a, bv b, bv c, bv d] 5)) (.slice (some ⟨w.heap.size, 0, none⟩) 4 4) [a, b, c, d] :=
  ownB_of (l := [a, b, c, d]) (n := 4) (World.alloc_heap_new w _) rfl rfl (Nat.le_refl _) (by simp)
theorem encB_four (n : Nat) : encB 4 n false = [UInt8.ofNat (n / 16777216), UInt8.ofNat (n / 65536), UInt8.ofNat (n / 256), UInt8.ofNat n] := by
  simp [encB, List.range_succ]
set_option maxRecDepth 100000 in
theorem four_any {B : Nat} {v : Value} {l : List UInt8} (n : Nat) (w : World) (hv : OwnB B w v l) (hn : n < 4294967296) (hl : l.length ≤ 70368744177664) (hB : B ≤ w.heap.size) :
    Calls Tryz.prog 32 #[v, .int .u32 n] w fun e w' => ∃ v', e = .returned v' ∧ GrewB B w v (l ++ encB 4 n false) v' w' := by
  have HV := Lib.hid hv
  have hal : Below w.heap.size w (w.alloc (.cells #[.int .u8 ((n : Int) / 16777216), .int .u8 ((n : Int) / 65536 % 256), .int .u8 ((n : Int) / 256 % 256), .int .u8 ((n : Int) % 256)] 5)) := (Below.refl _ _).alloc (Nat.le_refl _) _
  have h4 := four_own w (UInt8.ofNat (n / 16777216)) (UInt8.ofNat (n / 65536)) (UInt8.ofNat (n / 256)) (UInt8.ofNat n)
  rw [show bv (UInt8.ofNat (n / 16777216)) = .int .u8 ((n : Int) / 16777216) by unfold bv; simp only [UInt8.toNat_ofNat', Value.int.injEq, true_and]; omega, show bv (UInt8.ofNat (n / 65536)) = .int .u8 ((n : Int) / 65536 % 256) by unfold bv; simp,
    show bv (UInt8.ofNat (n / 256)) = .int .u8 ((n : Int) / 256 % 256) by unfold bv; simp, show bv (UInt8.ofNat n) = .int .u8 ((n : Int) % 256) by unfold bv; simp, ← encB_four] at h4
  have HAL := Lib.hid hal
  have H4 := Lib.hid h4
  clear hv hal h4
  go_enter Tryz.func32, Tryz.ntmps32
  go_wp2_with (at_builtin; go_must (
    refine (list_append rfl (.tmp 5) (.tmp 17) rfl v (.slice (some ⟨w.heap.size, 0, none⟩) 4 4) (by rfl) (by rfl) (ownsRow_below HV.out HAL.out) H4.out (by rw [encB_four]; simp) (by rw [encB_length]; omega) (Nat.le_trans hB HAL.out.size) ?_)
    intro g3 cap3 w4 ho3 hgr3 hg3 hlt3
    have HR3 := Lib.hid (GrewB.app HAL.out ho3 hgr3 hg3)
    clear ho3 hgr3 hg3 hlt3))
  go_ret
  have h := HR3.out
  rw [encB_length] at h
  exact ⟨_, rfl, h⟩

/-- what the document's Frame gives -/
def RFrPost (w : World) (g : G) (lt : Bool) (e : Ending) (w' : World) : Prop := ∃ v c a, e = .returned (.tuple #[v, .int .i64 c, .int .i64 a]) ∧ Below w.heap.size w w' ∧
  match checkR g with
  | some (a', c') => v = .slice none 0 0 ∧ a = a' ∧ c = c' ∧ c ≠ 0
  | none => if 65536 < (encG [lt] g 0).length then v = .slice none 0 0 ∧ c = 274 ∧ a = 0
    else OwnB w.heap.size w' v (frameB (encG [lt] g 0)) ∧ c = 0 ∧ a = -1
set_option maxRecDepth 100000 in
set_option maxHeartbeats 2000000 in
theorem rframe_any {ok : Nat → Prop} {g : G} {cs : List Value} (lt : Bool) (w : World) (hg : IsG ok w g cs) (hs : sizeG g ≤ 1048576) :
    Calls Tryz.prog 14 #[.agg cs.toArray, .bool lt] w (RFrPost w g lt) := by
  obtain ⟨i1, D1, m1, r1, D2, m2, r2, D3, m3, r3, rfl⟩ := geom_shape hg
  obtain ⟨w1, hw1⟩ : ∃ w1, w1 = w.alloc (.cells #[.int .i64 i1, .slice D1 m1 r1, .slice D2 m2 r2, .slice D3 m3 r3] 27) := ⟨_, rfl⟩
  have hb1 : Below w.heap.size w w1 := by subst hw1; exact (Below.refl _ w).alloc (Nat.le_refl _) _
  have hx1 : w1.heap[w.heap.size]? = some (.cells #[.int .i64 i1, .slice D1 m1 r1, .slice D2 m2 r2, .slice D3 m3 r3] 27 (0, 0)) := by subst hw1; exact World.alloc_heap_new _ _
  have HP := Lib.hid (rprint_any lt w1 (hg.keeps (below_keeps hb1 ok)) hs)
  have b0 := cell_row (cs := [_, _, _, _]) (j := 0) hx1 rfl
  have b1 := cell_row (cs := [_, _, _, _]) (j := 1) hx1 rfl
  have b2 := cell_row (cs := [_, _, _, _]) (j := 2) hx1 rfl
  have b3 := cell_row (cs := [_, _, _, _]) (j := 3) hx1 rfl
  have HB1 := Lib.hid hb1
  have hel := enc_size [lt] g 0
  have hel2 : (encG [lt] g 0).length ≤ 33554432 := by omega
  clear hg hb1 hx1 hel hs
  unfold RFrPost
  unfold RPrPost at HP
  obtain ⟨R, hR⟩ : ∃ R, checkR g = R := ⟨_, rfl⟩
  obtain ⟨wb, hwb⟩ : ∃ wb, encG [lt] g 0 = wb := ⟨_, rfl⟩
  have hne : wb ≠ [] := hwb ▸ encG_ne [lt] g 0
  have HNZ : Hid (∀ p e, R = some (p, e) → e ≠ 0) := Lib.hid fun p e h => chk_ne _ _ _ p e (hR.trans h)
  rw [hR, hwb] at HP ⊢
  rw [hwb] at hel2
  clear hR hwb
  go_enter Tryz.func14, Tryz.ntmps14
  go_upto_region 2 with (first
    | (rw [← hw1]
       clear hw1
       go_at_call 31
       go_must (
        refine HP.out.mono ?_
        rintro e w2 ⟨v, c, a, rfl, hb2, hr⟩
        have HR := Lib.hid hr
        have HB2 : Hid (Below w.heap.size w w2) := Lib.hid (HB1.out.trans (hb2.mono HB1.out.size))
        clear hb2 hr)))
  clear b0 b1 b2 b3
  cases R with
  | some z =>
    obtain ⟨a', c'⟩ := z
    obtain ⟨rfl, rfl, rfl⟩ := HR.out
    have hnz := HNZ.out _ _ rfl
    have HZ := Lib.hid hnz
    have hnb : (c == 0) = false := beq_eq_false_iff_ne.2 hnz
    clear hnz
    go_wp2_with fail
    go_ret3
    exact ⟨_, _, _, rfl, HB2.out, rfl, rfl, rfl, HZ.out⟩
  | none =>
    obtain ⟨how, rfl, rfl⟩ := HR.out
    obtain ⟨PA, PC, rfl⟩ := own_form how
    have HOW := Lib.hid how
    clear how HR
    by_cases hbig : 65536 < wb.length
    · have hbi : (65536 : Int) < (wb.length : Int) := by omega
      go_wp2_with fail
      go_ret3
      refine ⟨_, _, _, rfl, HB2.out, ?_⟩
      simp only
      first | exact ⟨rfl, trivial, trivial⟩ | (rw [if_pos hbig]; exact ⟨rfl, rfl, rfl⟩)
    · have hbi : ¬ (65536 : Int) < (wb.length : Int) := by omega
      have hwu : IntKind.u32.wrap (wb.length : Int) = (wb.length : Int) := by rw [wrap_u32n]; omega
      obtain ⟨w3, hw3⟩ : ∃ w3, w3 = w2.alloc (.cells #[.int .u8 80, .int .u8 76, .int .u8 77, .int .u8 49] 5) := ⟨_, rfl⟩
      have hb3 : Below w2.heap.size w2 w3 := by subst hw3; exact (Below.refl _ _).alloc (Nat.le_refl _) _
      have hmk : OwnB w2.heap.size w3 (.slice (some ⟨w2.heap.size, 0, none⟩) 4 4) markB := by subst hw3; exact four_own w2 80 76 77 49
      have HF := Lib.hid (four_any wb.length w3 hmk (by omega) (by decide) hb3.size)
      have HMK := Lib.hid hmk
      obtain ⟨mk, hmkk⟩ : ∃ mk, markB ++ encB 4 wb.length false = mk := ⟨_, rfl⟩
      have hml : mk.length = 8 := by rw [← hmkk, List.length_append, encB_length]; rfl
      have HHD : Hid (headB wb = mk ++ wb) := Lib.hid (by rw [← hmkk]; rfl)
      have HML := Lib.hid hml
      rw [hmkk] at HF
      have HNW : Hid (∀ k, (Value.slice PA wb.length PC).ownBlock = some k → k ≠ w2.heap.size) := Lib.hid fun k e h => by have := (World.ownsRow.lt HOW.out k e).2; omega
      clear hmkk hml
      have HB3 : Hid (Below w2.heap.size w2 w3 ∧ OwnB w.heap.size w3 (.slice PA wb.length PC) wb ∧ w.heap.size ≤ w2.heap.size) := Lib.hid ⟨hb3, OwnB.mono (ownsRow_below HOW.out hb3) HB1.out.size, HB2.out.size⟩
      clear hb3 hmk
      go_upto_region 6 with (fail)
      go_wp2_with (first
        | (rw [← hw3]
           clear hw3
           go_at_call 32
           go_must (
            refine HF.out.mono ?_
            rintro e w4 ⟨v4, rfl, hg4⟩
            have HG4 := Lib.hid hg4
            clear hg4))
        | (at_builtin
           go_must (
            have hx4 : OwnB w.heap.size w4 (.slice PA wb.length PC) wb := World.ownsRow.kept HB3.out.2.1 HG4.out.grown (.inr fun e => HNW.out w2.heap.size (by rw [e]; rfl) rfl)
            refine (list_append rfl (.tmp 30) (.tmp 31) rfl v4 (.slice PA wb.length PC) rfl rfl HG4.out.own hx4 hne (by rw [HML.out]; omega) (Nat.le_trans HB3.out.1.size HG4.out.grown.size) ?_)
            intro g5 cap5 w5 ho5 hgr5 hg5 hlt5
            have HR5 := Lib.hid (And.intro ho5 (And.intro hgr5 hg5))
            clear ho5 hgr5 hg5 hx4 hlt5)))
      have hb25 : Below w.heap.size w w5 := by
        have h34 := HG4.out.below HMK.out HB3.out.1.size
        have h45 : Below w2.heap.size w4 w5 := (Below.refl _ w4).grown HR5.out.2.1 (Nat.le_trans HB3.out.1.size HG4.out.grown.size) (fun k e => (World.ownsRow.lt HG4.out.own k e).1)
        exact HB2.out.trans (((HB3.out.1.trans h34).trans h45).mono HB2.out.size)
      have HB5 := Lib.hid hb25
      have ho5 : OwnB w2.heap.size w5 _ (mk ++ wb) := HR5.out.1
      have HS := Lib.hid (RSum_any w5 (OwnB.bytes ho5 (by rw [List.length_append, HML.out]; omega)))
      have HF6 := Lib.hid (four_any (sumR (mk ++ wb)) w5 ho5 (sumR_lt _) (by rw [List.length_append, HML.out]; omega) (Nat.le_trans HB3.out.1.size (Nat.le_trans HG4.out.grown.size HR5.out.2.1.size)))
      have HO5 := Lib.hid ho5
      clear ho5 hb25
      refine HS.out.mono ?_
      rintro e w' ⟨rfl, rfl⟩
      go_wp2_with fail
      refine HF6.out.mono ?_
      rintro e w6 ⟨v6, rfl, hg6⟩
      have HG6 := Lib.hid hg6
      clear hg6
      go_wp2_with fail
      go_ret3
      refine ⟨_, _, _, rfl, HB5.out.trans ((HG6.out.below HO5.out (Nat.le_trans HB3.out.1.size (Nat.le_trans HG4.out.grown.size HR5.out.2.1.size))).mono HB2.out.size), ?_⟩
      simp only
      rw [frameB, HHD.out]
      exact ⟨OwnB.mono HG6.out.own HB2.out.size, trivial, trivial⟩

set_option maxRecDepth 100000 in
set_option maxHeartbeats 2000000 in
theorem rmend_any {ok : Nat → Prop} {v : Value} {B : List UInt8} (d : Int) (w : World) (hv : Bytes ok w v B) (hl : B.length ≤ 536870912) :
    Calls Tryz.prog 6 #[v, .int .i64 d] w fun e w' => ∃ av, e = .returned (.tuple #[av, .int .i64 (mend d B).2]) ∧ MdS w (mend d B).1 av w' := by
  obtain ⟨A, c, rfl, hc, hl2, hrow⟩ := hv
  have HV := Lib.hid (show Bytes ok w (.slice A B.length c) B from ⟨_, _, rfl, hc, hl2, hrow⟩)
  have HML := Lib.hid (mend_len d B.length B (Nat.le_refl _))
  clear hrow
  go_enter Tryz.func6, Tryz.ntmps6
  go_wp2_with fail
  go_loopw [6, 7, 8] (fun av o i W => ∃ (q over : Nat) (acc : List G), q ≤ B.length ∧ i = .int .i64 q ∧ o = .int .i64 over ∧ Hid (MdS w acc av W) ∧ Hid (acc ++ (mend d (B.drop q)).1 = (mend d B).1 ∧ over + (mend d (B.drop q)).2 = (mend d B).2)) (fun _ _ i _ => B.length - (intOf i).toNat)
  case atStart => exact ⟨0, 0, [], Nat.zero_le _, rfl, rfl, Lib.hid ⟨Below.refl _ _, [], World.ownsRow_nil _ _ _ _, by simp [IsGs]⟩, Lib.hid ⟨by simp, by simp⟩⟩
  case round =>
    obtain ⟨q, over, acc, hq, rfl, rfl, HS, HE⟩ := hrel
    by_cases hql : q < B.length
    · have hne : B.drop q ≠ [] := by intro e; have h := congrArg List.length e; simp at h; omega
      have hbl := HS.out.below
      have hacc : acc.length ≤ 536870912 := by
        have h := congrArg List.length HE.out.1
        have h2 := HML.out.1
        rw [List.length_append] at h
        generalize (mend d B).1.length = x at h h2
        generalize (mend d (B.drop q)).1.length = y at h
        omega
      have hov : over ≤ 536870912 := by
        have h := HE.out.2
        have h2 := HML.out.2
        generalize (mend d B).2 = x at h h2
        generalize (mend d (B.drop q)).2 = y at h
        omega
      have HR := Lib.hid (rrec_any q d wr (HV.out.keepB hbl) hq (by omega))
      obtain ⟨vs, ho1, hg1⟩ := HS.out.own
      have HO1 := Lib.hid (And.intro ho1 hg1)
      have hsw := hbl.size
      have hqi : (q : Int) < (B.length : Int) := by omega
      have HNE := Lib.hid hne
      clear ho1 hg1 hbl hne
      go_wp2_with fail
      refine HR.out.mono ?_
      rintro e w1 ⟨ki, A1, n1, c1, A2, n2, c2, A3, n3, c3, nx, wt, cc, aa, rfl, hb1, hm⟩
      have hs1 := hb1.size
      cases hr : recR (B.drop q) d with
      | wait =>
          rw [hr] at hm
          obtain ⟨rfl, rfl, rfl⟩ := hm
          have HM := Lib.hid (MdS.under (MdS.under HS.out hb1) ((Below.refl w1.heap.size w1).alloc (Nat.le_refl _) (.cells #[.int .i64 ki, .slice A1 n1 c1, .slice A2 n2 c2, .slice A3 n3 c3] 27)))
          have HK := Lib.hid (mend_skip HNE.out (d := d) (by intro g n e; rw [hr] at e; cases e))
          clear hb1 hr
          go_wp2_with fail
          go_roundw
          · refine ⟨q + 1, over + 1, acc, hql, by simp, by simp, HM, Lib.hid ?_⟩
            have h := HE.out
            rw [HK.out, List.drop_drop] at h
            simp only at h
            exact ⟨h.1, by rw [← h.2]; generalize (mend d (List.drop (q + 1) B)).2 = x; omega⟩
          · simp [intOf]; omega
      | bad x1 x2 =>
          rw [hr] at hm
          obtain ⟨rfl, rfl, hcn, rfl⟩ := hm
          have hcb : (cc == 0) = false := beq_eq_false_iff_ne.2 hcn
          have HM := Lib.hid (MdS.under (MdS.under HS.out hb1) ((Below.refl w1.heap.size w1).alloc (Nat.le_refl _) (.cells #[.int .i64 ki, .slice A1 n1 c1, .slice A2 n2 c2, .slice A3 n3 c3] 27)))
          have HK := Lib.hid (mend_skip HNE.out (d := d) (by intro g n e; rw [hr] at e; cases e))
          clear hb1 hr hcn
          go_wp2_with fail
          go_roundw
          · refine ⟨q + 1, over + 1, acc, hql, by simp, by simp, HM, Lib.hid ?_⟩
            have h := HE.out
            rw [HK.out, List.drop_drop] at h
            simp only at h
            exact ⟨h.1, by rw [← h.2]; generalize (mend d (List.drop (q + 1) B)).2 = x; omega⟩
          · simp [intOf]; omega
      | got g m =>
          rw [hr] at hm
          obtain ⟨hgi, rfl, rfl, rfl⟩ := hm
          have hgm := recR_got hr
          have hml : m ≤ B.length - q := by have := hgm.2; rw [List.length_drop] at this; exact this
          have HK := Lib.hid (mend_got hr)
          obtain ⟨w2, hw2⟩ : ∃ w2, w2 = w1.alloc (.cells #[.int .i64 ki, .slice A1 n1 c1, .slice A2 n2 c2, .slice A3 n3 c3] 27) := ⟨_, rfl⟩
          have hb2 : Below w1.heap.size w1 w2 := by rw [hw2]; exact (Below.refl _ _).alloc (Nat.le_refl _) _
          have hx2 : w2.heap[w1.heap.size]? = some (.cells #[.int .i64 ki, .slice A1 n1 c1, .slice A2 n2 c2, .slice A3 n3 c3] 27 (0, 0)) := by rw [hw2]; exact World.alloc_heap_new _ _
          have hs2 := hb2.size
          have g0 := cell_row (cs := [_, _, _, _]) (j := 0) hx2 rfl
          have g1 := cell_row (cs := [_, _, _, _]) (j := 1) hx2 rfl
          have g2 := cell_row (cs := [_, _, _, _]) (j := 2) hx2 rfl
          have g3 := cell_row (cs := [_, _, _, _]) (j := 3) hx2 rfl
          have ha2 := (Below.refl w2.heap.size w2).alloc (Nat.le_refl _) (.cells #[.int .i64 ki, .slice A1 n1 c1, .slice A2 n2 c2, .slice A3 n3 c3] 27)
          have hxa2 : (w2.alloc (.cells #[.int .i64 ki, .slice A1 n1 c1, .slice A2 n2 c2, .slice A3 n3 c3] 27)).heap[w2.heap.size]? = some (.cells #[.int .i64 ki, .slice A1 n1 c1, .slice A2 n2 c2, .slice A3 n3 c3] 27 (0, 0)) := World.alloc_heap_new _ _
          have hbr2 : Below wr.heap.size wr w2 := hb1.trans (hb2.mono hs1)
          have HO := Lib.hid (And.intro (ownsRow_below (ownsRow_below HO1.out.1 hbr2) ha2) (And.intro hxa2 (And.intro (hbr2.trans (ha2.mono hbr2.size)) (hgi.keeps (below_keeps (hb2.trans (ha2.mono hs2)) _)))))
          clear hb1 hb2 hx2 ha2 hxa2 hbr2 hgi hr
          go_upto_region 6 with (fail)
          rw [← hw2]
          clear hw2
          go_wp2_with (first
            | (at_builtin
               go_must (
               refine (list_appendG rfl (.tmp 37) (.tmp 39) rfl u6 (by rfl) (by rfl) HO.out.1 (fun i u hi => cell_row (cs := [_, _, _, _]) HO.out.2.1 hi) (by simp [Value.oneCell']) (by omega) (Nat.le_trans hsw HO.out.2.2.1.size) ?_)
               intro q4 cap4 w4 ho4 hgr4 hq4 hlt4
               have HR4 := Lib.hid (And.intro ho4 (And.intro hgr4 hq4))
               clear ho4 hgr4 hq4))
            | fail)
          go_roundw
          · refine ⟨q + m, over, acc ++ [g], by omega, by simp, rfl, Lib.hid ?_, Lib.hid ?_⟩
            · refine MdS.next HS.out HO1.out.1 HO1.out.2 HO.out.2.2.1 (cs := [_, _, _, _]) HO.out.2.2.2 HR4.out.1 HR4.out.2.1 ?_
              intro x hx
              simp only [Value.ownBlock, Option.some.injEq] at hx
              subst hx
              exact HR4.out.2.2
            · have h := HE.out
              rw [HK.out, List.drop_drop] at h
              simp only at h
              exact ⟨by rw [← h.1]; simp, h.2⟩
          · simp [intOf]; omega
    · have hqe : q = B.length := by omega
      subst hqe
      have he := HE.out
      rw [List.drop_length, mend_nil] at he
      have h1 : acc = (mend d B).1 := by simpa using he.1
      have h2 : over = (mend d B).2 := by simpa using he.2
      have HH := Lib.hid (And.intro h1 h2)
      clear he h1 h2
      have hqi : ¬ (B.length : Int) < (B.length : Int) := by omega
      go_wp2_with fail
      go_ret2
      exact ⟨_, by rw [← HH.out.2]; rfl, by rw [← HH.out.1]; exact HS.out⟩
end
section
open Go.RowKit

theorem toldB_self (a c : Int) (h : c ≠ 0) : toldB (some (a, c)) c a = true := by simp [toldB, h]
theorem toldB_none (a : Int) : toldB none 0 a = true := by simp [toldB]

set_option maxRecDepth 100000 in
set_option maxHeartbeats 2000000 in
theorem frames_any {ok : Nat → Prop} {g : G} {cs : List Value} (lt : Bool) (w : World) (hg : IsG ok w g cs) (hs : sizeG g ≤ 1048576) (het : ErrT w) :
    Calls Tryz.prog 4 #[.agg cs.toArray, .bool lt] w fun e w' => e = .returned (.bool true) ∧ Below w.heap.size w w' := by
  obtain ⟨i1, D1, m1, r1, D2, m2, r2, D3, m3, r3, rfl⟩ := geom_shape hg
  obtain ⟨w1, hw1⟩ : ∃ w1, w1 = w.alloc (.cells #[.int .i64 i1, .slice D1 m1 r1, .slice D2 m2 r2, .slice D3 m3 r3] 27) := ⟨_, rfl⟩
  have hb1 : Below w.heap.size w w1 := by subst hw1; exact (Below.refl _ w).alloc (Nat.le_refl _) _
  have hx1 : w1.heap[w.heap.size]? = some (.cells #[.int .i64 i1, .slice D1 m1 r1, .slice D2 m2 r2, .slice D3 m3 r3] 27 (0, 0)) := by subst hw1; exact World.alloc_heap_new _ _
  have hlt1 := lt_of_heap hx1
  have hbx : ∀ W : World, Below w1.heap.size w1 W → W.cell? ⟨w.heap.size, 0, none⟩ = some (.int .i64 i1) ∧ W.cell? ⟨w.heap.size, 1, none⟩ = some (.slice D1 m1 r1) ∧ W.cell? ⟨w.heap.size, 2, none⟩ = some (.slice D2 m2 r2) ∧ W.cell? ⟨w.heap.size, 3, none⟩ = some (.slice D3 m3 r3) := fun W hW => by
    have k1 := (hW.block _ hlt1).trans hx1
    exact ⟨cell_row (cs := [_, _, _, _]) (j := 0) k1 rfl, cell_row (cs := [_, _, _, _]) (j := 1) k1 rfl, cell_row (cs := [_, _, _, _]) (j := 2) k1 rfl, cell_row (cs := [_, _, _, _]) (j := 3) k1 rfl⟩
  have HBX := Lib.hid hbx
  have HB1 := Lib.hid hb1
  have hgk : ∀ W : World, Below w1.heap.size w1 W → IsG ok W g [.int .i64 i1, .slice D1 m1 r1, .slice D2 m2 r2, .slice D3 m3 r3] := fun W hW => hg.keeps (below_keeps (hb1.trans (hW.mono hb1.size)) ok)
  have HGK := Lib.hid hgk
  have hel := enc_size [lt] g 0
  have hbg := begun_size g
  have hdp := depth_size g
  have HCH := Lib.hid (dcheck_any w1 (hgk w1 (Below.refl _ _)) hs)
  have HCO := Lib.hid (fun W hW => dcount_any (depth g) g ok _ W (Nat.le_refl _) (hgk W hW) hs)
  have HF1 := Lib.hid (fun W hW => rframe_any lt W (hgk W hW) hs)
  have HF2 := Lib.hid (fun W hW => Frame_any lt W (hgk W hW) (by omega) (small_size g (by omega)) (fun _ => by omega) (fun _ => by omega))
  have HAL : Hid (∀ W : World, Below w1.heap.size w1 W → ErrT W) := Lib.hid fun W hW => het.below (hb1.trans (hW.mono hb1.size))
  have hcs := cnt_size g
  have hel2 : (encG [lt] g 0).length ≤ 33554432 := by omega
  obtain ⟨R, hR⟩ : ∃ R, checkR g = R := ⟨_, rfl⟩
  obtain ⟨wb, hwb⟩ : ∃ wb, encG [lt] g 0 = wb := ⟨_, rfl⟩
  obtain ⟨gn, hgn⟩ : ∃ gn, geoN g = gn := ⟨_, rfl⟩
  obtain ⟨pn, hpn⟩ : ∃ pn, ptsN g = pn := ⟨_, rfl⟩
  have HNZ : Hid (∀ p e, R = some (p, e) → e ≠ 0) := Lib.hid fun p e h => chk_ne _ _ _ p e (hR.trans h)
  unfold RFrPost at HF1
  unfold FramePost at HF2
  rw [hR] at HCH
  rw [hgn, hpn] at HCO hcs
  simp only [hR, hwb] at HF1 HF2
  rw [hwb] at hel2
  obtain ⟨b0, b1, b2, b3⟩ := hbx w1 (Below.refl _ _)
  clear hbx hgk hg hb1 hx1 hel hbg hdp hR hwb hgn hpn het
  cases R with
  | some z =>
    obtain ⟨a', c'⟩ := z
    have hnz := HNZ.out _ _ rfl
    have hnb : (c' == 0) = false := beq_eq_false_iff_ne.2 hnz
    have HZ := Lib.hid hnz
    clear hnz
    go_enter Tryz.func4, Tryz.ntmps4
    go_upto_region 6 with (first
      | (rw [← hw1]
         clear hw1
         go_at_call 11
         go_must (
          refine HCH.out.mono ?_
          rintro e w2 ⟨he, hb2⟩
          simp only [chkV] at he
          subst he
          have HB2 := Lib.hid hb2
          clear hb2)))
    clear b0 b1 b2 b3
    obtain ⟨c0, c1, c2, c3⟩ := HBX.out w2 HB2.out
    have H1 := Lib.hid (HF1.out w2 HB2.out)
    go_upto_region 7 with (first
      | (go_at_call 14
         go_must (
          refine H1.out.mono ?_
          rintro e w3 ⟨v3, e3, a3, rfl, hb3, rfl, rfl, rfl, _⟩
          have HB3 : Hid (Below w1.heap.size w1 w3) := Lib.hid (HB2.out.trans (hb3.mono HB2.out.size))
          clear hb3)))
    clear c0 c1 c2 c3
    obtain ⟨c0, c1, c2, c3⟩ := HBX.out w3 HB3.out
    have H2 := Lib.hid (HF2.out w3 HB3.out)
    go_upto_region 8 with (first
      | (go_at_call 15
         go_must (
          refine H2.out.mono ?_
          rintro e w4 ⟨v4, er, rfl, hb4, rfl, her⟩
          have HB4 : Hid (Below w1.heap.size w1 w4) := Lib.hid (HB3.out.trans (hb4.mono HB3.out.size))
          have HER := Lib.hid her
          clear hb4 her)))
    clear c0 c1 c2 c3
    have HSM := Lib.hid (same_any (ok := fun _ => True) (ok2 := fun _ => True) (l := []) (m := []) w4 (Sl.nil _ _) (Sl.nil _ _))
    have HTO := Lib.hid (fun W (hb : Below w4.heap.size w4 W) => told_any (some (a3, e3)) er e3 a3 W (HAL.out W (HB4.out.trans (hb.mono HB4.out.size))) (HER.out.keeps (below_keeps hb _)))
    rw [toldB_self _ _ HZ.out] at HTO
    go_wp2_with (first
      | (go_at_call 17
         go_must (
          refine (HTO.out _ HB5.out).mono ?_
          rintro e w6 ⟨rfl, hb6⟩
          have HB6 := Lib.hid hb6
          clear hb6))
      | (go_at_call 16
         go_must (
          refine HSM.out.mono ?_
          rintro e w5 ⟨rfl, hb5⟩
          have HB5 := Lib.hid hb5
          clear hb5)))
    go_ret
    exact ⟨rfl, HB1.out.trans ((HB4.out.trans ((HB5.out.trans (HB6.out.mono HB5.out.size)).mono HB4.out.size)).mono HB1.out.size)⟩
  | none =>
    go_enter Tryz.func4, Tryz.ntmps4
    go_upto_region 3 with (first
      | (rw [← hw1]
         clear hw1
         go_at_call 11
         go_must (
          refine HCH.out.mono ?_
          rintro e w2 ⟨he, hb2⟩
          simp only [chkV] at he
          subst he
          have HB2 := Lib.hid hb2
          clear hb2)))
    clear b0 b1 b2 b3
    obtain ⟨c0, c1, c2, c3⟩ := HBX.out w2 HB2.out
    have H0 := Lib.hid (HCO.out w2 HB2.out)
    have hs0 : IntKind.i64.wrap ((gn : Int) + (pn : Int)) = (gn : Int) + (pn : Int) := IntWalk.i64_in _ (by omega)
    by_cases hbig : (3000 : Int) < (gn : Int) + (pn : Int)
    · go_wp2_with (first
        | (go_at_call 13
           go_must (
            refine (alive_any w3 (HAL.out w3 HB3.out)).mono ?_
            rintro e w4 ⟨rfl, hb4⟩
            have HB4 := Lib.hid hb4
            clear hb4))
        | (go_at_call 12
           go_must (
            refine H0.out.mono ?_
            rintro e w3 ⟨rfl, hb3⟩
            have HB3 : Hid (Below w1.heap.size w1 w3) := Lib.hid (HB2.out.trans (hb3.mono HB2.out.size))
            clear hb3)))
      go_ret
      exact ⟨rfl, HB1.out.trans ((HB3.out.trans (HB4.out.mono HB3.out.size)).mono HB1.out.size)⟩
    · go_upto_region 6 with (first
        | (go_at_call 12
           go_must (
            refine H0.out.mono ?_
            rintro e wz ⟨rfl, hb3⟩
            have HBz : Hid (Below w1.heap.size w1 wz) := Lib.hid (HB2.out.trans (hb3.mono HB2.out.size))
            clear hb3)))
      clear c0 c1 c2 c3
      obtain ⟨c0, c1, c2, c3⟩ := HBX.out wz HBz.out
      have H1 := Lib.hid (HF1.out wz HBz.out)
      by_cases hlong : 65536 < wb.length
      · simp only [if_pos hlong] at H1
        simp only [if_pos hlong] at HF2
        go_upto_region 7 with (first
          | (go_at_call 14
             go_must (
              refine H1.out.mono ?_
              rintro e w3 ⟨v3, e3, a3, rfl, hb3, rfl, rfl, rfl⟩
              have HB3 : Hid (Below w1.heap.size w1 w3) := Lib.hid (HBz.out.trans (hb3.mono HBz.out.size))
              clear hb3)))
        clear c0 c1 c2 c3
        obtain ⟨c0, c1, c2, c3⟩ := HBX.out w3 HB3.out
        have H2 := Lib.hid (HF2.out w3 HB3.out)
        go_upto_region 8 with (first
          | (go_at_call 15
             go_must (
              refine H2.out.mono ?_
              rintro e w4 ⟨v4, er, rfl, hb4, rfl, her⟩
              have HB4 : Hid (Below w1.heap.size w1 w4) := Lib.hid (HB3.out.trans (hb4.mono HB3.out.size))
              have HER := Lib.hid her
              clear hb4 her)))
        clear c0 c1 c2 c3
        have HSM := Lib.hid (same_any (ok := fun _ => True) (ok2 := fun _ => True) (l := []) (m := []) w4 (Sl.nil _ _) (Sl.nil _ _))
        have HTO := Lib.hid (fun W (hb : Below w4.heap.size w4 W) => told_any (some (0, 274)) er 274 0 W (HAL.out W (HB4.out.trans (hb.mono HB4.out.size))) (HER.out.keeps (below_keeps hb _)))
        rw [toldB_self _ _ (by decide)] at HTO
        go_wp2_with (first
          | (go_at_call 17
             go_must (
              refine (HTO.out _ HB5.out).mono ?_
              rintro e w6 ⟨rfl, hb6⟩
              have HB6 := Lib.hid hb6
              clear hb6))
          | (go_at_call 16
             go_must (
              refine HSM.out.mono ?_
              rintro e w5 ⟨rfl, hb5⟩
              have HB5 := Lib.hid hb5
              clear hb5)))
        go_ret
        exact ⟨rfl, HB1.out.trans ((HB4.out.trans ((HB5.out.trans (HB6.out.mono HB5.out.size)).mono HB4.out.size)).mono HB1.out.size)⟩
      · simp only [if_neg hlong] at H1
        simp only [if_neg hlong] at HF2
        go_upto_region 7 with (first
          | (go_at_call 14
             go_must (
              refine H1.out.mono ?_
              rintro e w3 ⟨v3, e3, a3, rfl, hb3, ho3, rfl, rfl⟩
              have HB3 : Hid (Below w1.heap.size w1 w3) := Lib.hid (HBz.out.trans (hb3.mono HBz.out.size))
              have HO3 := Lib.hid ho3
              clear hb3 ho3)))
        clear c0 c1 c2 c3
        obtain ⟨c0, c1, c2, c3⟩ := HBX.out w3 HB3.out
        have H2 := Lib.hid (HF2.out w3 HB3.out)
        go_upto_region 8 with (first
          | (go_at_call 15
             go_must (
              refine H2.out.mono ?_
              rintro e w4 ⟨v4, er, rfl, hb4, ho4, rfl⟩
              have HB4 : Hid (Below w1.heap.size w1 w4) := Lib.hid (HB3.out.trans (hb4.mono HB3.out.size))
              have HO4 := Lib.hid (And.intro ho4 (HO3.out.under hb4))
              clear hb4 ho4)))
        clear c0 c1 c2 c3
        have hfl : (frameB wb).length ≤ 140737488355328 := by
          unfold frameB headB
          simp only [List.length_append, encB_length, markB, List.length_cons, List.length_nil]; omega
        have HSM := Lib.hid (same_any w4 (OwnB.bytes HO4.out.1 hfl) (OwnB.bytes HO4.out.2 hfl))
        rw [decide_eq_true rfl] at HSM
        have HTO := Lib.hid (fun W (hb : Below w4.heap.size w4 W) => told_any (ok := fun _ => True) none .nilIface 0 (-1) W (HAL.out W (HB4.out.trans (hb.mono HB4.out.size))) rfl)
        rw [toldB_none] at HTO
        clear hfl
        go_wp2_with (first
          | (go_at_call 17
             go_must (
              refine (HTO.out _ HB5.out).mono ?_
              rintro e w6 ⟨rfl, hb6⟩
              have HB6 := Lib.hid hb6
              clear hb6))
          | (go_at_call 16
             go_must (
              refine HSM.out.mono ?_
              rintro e w5 ⟨rfl, hb5⟩
              have HB5 := Lib.hid hb5
              clear hb5)))
        go_ret
        exact ⟨rfl, HB1.out.trans ((HB4.out.trans ((HB5.out.trans (HB6.out.mono HB5.out.size)).mono HB4.out.size)).mono HB1.out.size)⟩
end
section
open Go.RowKit

theorem Sl.of_own {B : Nat} {w : World} {e : TypeId} {k n : Nat} {v : Value} {xs : List Value} (h : w.ownsRow B e k v n xs) (hn : n ≤ 140737488355328) : Sl (fun b => B ≤ b) w v n xs := by
  obtain ⟨h0, ⟨rfl, h2⟩ | ⟨g, cap, cur, hv, hb, hg, h3, h4, h5, h6⟩⟩ := h
  · refine ⟨_, _, by rw [h2], by omega, hn, .inl ?_⟩
    exact List.eq_nil_of_length_eq_zero (by rw [h0, h2]; simp)
  · refine ⟨_, _, hv, h3, hn, .inr ⟨g, 0, rfl, hb, fun i c hc => ?_⟩⟩
    have := World.ownsRow.cells (show w.ownsRow B e k v n xs from ⟨h0, .inr ⟨g, cap, cur, hv, hb, hg, h3, h4, h5, h6⟩⟩) (g := g) (by rw [hv]; rfl) i c hc
    rw [add0] at this
    rw [Nat.zero_add]; exact this

set_option maxRecDepth 100000 in
set_option maxHeartbeats 2000000 in
theorem mends_any {ok ok2 : Nat → Prop} {v : Value} {l : List UInt8} {g : G} {cs : List Value} (d : Int) (w : World) (hv : Bytes ok w v l) (hg : IsG ok2 w g cs) (hs : sizeG g ≤ 1048576) (het : ErrT w) :
    Calls Tryz.prog 3 #[v, .int .i64 d, .agg cs.toArray] w fun e w' => e = .returned (.bool true) ∧ Below w.heap.size w w' := by
  obtain ⟨i1, D1, m1, r1, D2, m2, r2, D3, m3, r3, rfl⟩ := geom_shape hg
  obtain ⟨w1, hw1⟩ : ∃ w1, w1 = w.alloc (.cells #[.int .i64 i1, .slice D1 m1 r1, .slice D2 m2 r2, .slice D3 m3 r3] 27) := ⟨_, rfl⟩
  have hb1 : Below w.heap.size w w1 := by subst hw1; exact (Below.refl _ w).alloc (Nat.le_refl _) _
  have hx1 : w1.heap[w.heap.size]? = some (.cells #[.int .i64 i1, .slice D1 m1 r1, .slice D2 m2 r2, .slice D3 m3 r3] 27 (0, 0)) := by subst hw1; exact World.alloc_heap_new _ _
  have hlt1 := lt_of_heap hx1
  have hbx : ∀ W : World, Below w1.heap.size w1 W → W.cell? ⟨w.heap.size, 0, none⟩ = some (.int .i64 i1) ∧ W.cell? ⟨w.heap.size, 1, none⟩ = some (.slice D1 m1 r1) ∧ W.cell? ⟨w.heap.size, 2, none⟩ = some (.slice D2 m2 r2) ∧ W.cell? ⟨w.heap.size, 3, none⟩ = some (.slice D3 m3 r3) := fun W hW => by
    have k1 := (hW.block _ hlt1).trans hx1
    exact ⟨cell_row (cs := [_, _, _, _]) (j := 0) k1 rfl, cell_row (cs := [_, _, _, _]) (j := 1) k1 rfl, cell_row (cs := [_, _, _, _]) (j := 2) k1 rfl, cell_row (cs := [_, _, _, _]) (j := 3) k1 rfl⟩
  have HBX := Lib.hid hbx
  have HB1 := Lib.hid hb1
  have HAL : Hid (∀ W : World, Below w1.heap.size w1 W → ErrT W) := Lib.hid fun W hW => het.below (hb1.trans (hW.mono hb1.size))
  have HFR := Lib.hid (fun lt W (hW : Below w1.heap.size w1 W) => frames_any lt W (hg.keeps (below_keeps (hb1.trans (hW.mono hb1.size)) ok2)) hs (HAL.out W hW))
  have HV := Lib.hid (fun W (hW : Below w1.heap.size w1 W) => (hv.keepB (hb1.trans (hW.mono hb1.size)) : Bytes ok W v l))
  obtain ⟨b0, b1, b2, b3⟩ := hbx w1 (Below.refl _ _)
  obtain ⟨A, c, rfl, hc, hl2, hrow⟩ := hv
  clear hbx hb1 hx1 hg het hrow
  go_enter Tryz.func3, Tryz.ntmps3
  go_upto_region 1 with (fail)
  rw [← hw1]
  clear hw1
  go_wp2_with fail
  refine (HFR.out false w1 (Below.refl _ _)).mono ?_
  rintro e w2 ⟨rfl, hb2⟩
  obtain ⟨c0, c1, c2, c3⟩ := HBX.out w2 hb2
  have HB2 := Lib.hid hb2
  clear b0 b1 b2 b3 hb2
  go_wp2_with fail
  refine (HFR.out true w2 HB2.out).mono ?_
  rintro e w3 ⟨rfl, hb3⟩
  have HB3 : Hid (Below w1.heap.size w1 w3) := Lib.hid (HB2.out.trans (hb3.mono HB2.out.size))
  clear c0 c1 c2 c3 hb3
  go_wp2_with fail
  refine (cut_any 3000 w3 (HV.out w3 HB3.out)).mono ?_
  rintro e w4 ⟨x4, rfl, ho4, hb4⟩
  have HB4 : Hid (Below w1.heap.size w1 w4) := Lib.hid (HB3.out.trans (hb4.mono HB3.out.size))
  obtain ⟨b, hb⟩ : ∃ b, l.take (3000 : Int).toNat = b := ⟨_, rfl⟩
  have hbl : b.length ≤ 3000 := by rw [← hb, List.length_take]; exact Nat.min_le_left _ _
  have hbt : b.take (3000 : Int).toNat = b := List.take_of_length_le hbl
  rw [hb] at ho4
  have HY := Lib.hid (fun W (hW : Below w4.heap.size w4 W) => (OwnB.bytes (OwnB.under ho4 hW) (by omega) : Bytes (fun k => w3.heap.size ≤ k) W x4 b))
  have HBT := Lib.hid hbt
  clear ho4 hb4 hb hbt
  go_wp2_with fail
  refine (rmend_any d w4 (HY.out w4 (Below.refl _ _)) (by omega)).mono ?_
  rintro e w5 ⟨a5, rfl, hm5⟩
  have HM5 := Lib.hid hm5
  have HB5 : Hid (Below w1.heap.size w1 w5 ∧ Below w4.heap.size w4 w5) := Lib.hid ⟨HB4.out.trans (hm5.below.mono HB4.out.size), hm5.below⟩
  clear hm5
  go_wp2_with fail
  refine (cut_any 3000 w5 (HY.out w5 HB5.out.2)).mono ?_
  rintro e w6 ⟨x6, rfl, ho6, hb6⟩
  rw [HBT.out] at ho6
  have HO6 := Lib.hid (OwnB.bytes ho6 (by omega))
  have HB6 : Hid (Below w1.heap.size w1 w6 ∧ Below w5.heap.size w5 w6) := Lib.hid ⟨HB5.out.1.trans (hb6.mono HB5.out.1.size), hb6⟩
  clear ho6 hb6
  go_wp2_with fail
  refine (mend_any d w6 HO6.out (by omega) (HAL.out w6 HB6.out.1)).mono ?_
  rintro e w7 ⟨a7, rfl, hm7⟩
  have HM7 := Lib.hid hm7
  have HM57 := Lib.hid (MdS.under (MdS.under HM5.out HB6.out.2) hm7.below)
  have HB7 : Hid (Below w1.heap.size w1 w7 ∧ Below w4.heap.size w4 w7) := Lib.hid ⟨HB6.out.1.trans (hm7.below.mono HB6.out.1.size), (HB5.out.2.trans (HB6.out.2.mono HB5.out.2.size)).trans (hm7.below.mono (Nat.le_trans HB5.out.2.size HB6.out.2.size))⟩
  clear hm7 HM5
  have hml := (mend_len d b.length b (Nat.le_refl _)).1
  obtain ⟨vs7, hr7, hg7⟩ := HM7.out.own
  obtain ⟨vs5, hr5, hg5⟩ := HM57.out.own
  have HTR := Lib.hid (trees_any w7 (Sl.of_own hr7 (by omega)) (hg7.mono fun _ _ h => h.1) (Sl.of_own hr5 (by omega)) (hg5.mono fun _ _ h => h.1))
  clear hr7 hg7 hr5 hg5 hml
  go_wp2_with fail
  refine HTR.out.mono ?_
  rintro e w8 ⟨rfl, hb8⟩
  have HB8 : Hid (Below w1.heap.size w1 w8 ∧ Below w4.heap.size w4 w8) := Lib.hid ⟨HB7.out.1.trans (hb8.mono HB7.out.1.size), HB7.out.2.trans (hb8.mono HB7.out.2.size)⟩
  clear hb8
  go_wp2_with fail
  refine (cut_any 3000 w8 (HY.out w8 HB8.out.2)).mono ?_
  rintro e w9 ⟨x9, rfl, ho9, hb9⟩
  rw [HBT.out] at ho9
  have HO9 := Lib.hid (OwnB.bytes ho9 (by omega))
  have HB9 : Hid (Below w1.heap.size w1 w9 ∧ Below w4.heap.size w4 w9) := Lib.hid ⟨HB8.out.1.trans (hb9.mono HB8.out.1.size), HB8.out.2.trans (hb9.mono HB8.out.2.size)⟩
  clear ho9 hb9
  go_wp2_with fail
  refine (Sum_any w9 HO9.out).mono ?_
  rintro e w' ⟨rfl, rfl⟩
  go_wp2_with fail
  refine (RSum_any w9 (HY.out w9 HB9.out.2)).mono ?_
  rintro e w' ⟨rfl, rfl⟩
  go_wp2_with fail
  go_ret
  exact ⟨rfl, HB1.out.trans (HB9.out.1.mono HB1.out.size)⟩
end
end Go.Proofs.YtlffgepnhhnadaaGreatDoor.Pl
