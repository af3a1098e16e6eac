/- stream.Mend, walked; its law in plain Lean. -/
import Derived.Test.YtlffgepnhhnadaaDoorReadW
import Derived.Deep.DeepMust
namespace Go.Proofs.YtlffgepnhhnadaaDoor.Pl
open Go.RowKit

/-- what Mend gives: the trees, and how many bytes it passed over -/
def mendR (d : Int) : Nat → List UInt8 → List G × Nat
  | 0, _ => ([], 0)
  | f + 1, l => if l = [] then ([], 0) else match recR l d with
    | .got g n => (g :: (mendR d f (l.drop n)).1, (mendR d f (l.drop n)).2)
    | _ => ((mendR d f (l.drop 1)).1, 1 + (mendR d f (l.drop 1)).2)
def mend (d : Int) (l : List UInt8) : List G × Nat := mendR d (l.length + 1) l
theorem mendR_fuel (d : Int) : ∀ (f k : Nat) (l : List UInt8), l.length < f → l.length < k → mendR d f l = mendR d k l := by
  intro f
  induction f with
  | zero => intro k l h; omega
  | succ f ih =>
    intro k l h1 h2
    obtain ⟨k, rfl⟩ : ∃ k', k = k' + 1 := ⟨k - 1, by omega⟩
    simp only [mendR]
    by_cases hl : l = []
    · rw [if_pos hl, if_pos hl]
    rw [if_neg hl, if_neg hl]
    have := List.length_pos_iff.2 hl
    cases hr : recR l d with
    | got g n =>
      have := recR_got hr
      simp only
      rw [ih k (l.drop n) (by simp; omega) (by simp; omega)]
    | wait => simp only; rw [ih k (l.drop 1) (by simp; omega) (by simp; omega)]
    | bad a c => simp only; rw [ih k (l.drop 1) (by simp; omega) (by simp; omega)]
theorem mend_nil (d : Int) : mend d [] = ([], 0) := rfl
theorem mend_got {d : Int} {l : List UInt8} {g : G} {n : Nat} (h : recR l d = .got g n) : mend d l = (g :: (mend d (l.drop n)).1, (mend d (l.drop n)).2) := by
  have := recR_got h
  have hl : l ≠ [] := by intro e; subst e; simp at this; omega
  have e : mendR d l.length (l.drop n) = mend d (l.drop n) := mendR_fuel d _ _ _ (by simp; omega) (by simp)
  unfold mend at e ⊢
  simp only [mendR, if_neg hl, h, e]
theorem mendR_skip {d : Int} {f : Nat} {l : List UInt8} (hl : l ≠ []) (h : ∀ g n, recR l d ≠ .got g n) : mendR d (f + 1) l = ((mendR d f (l.drop 1)).1, 1 + (mendR d f (l.drop 1)).2) := by
  rw [mendR, if_neg hl]
  cases hr : recR l d with
  | got g n => exact absurd hr (h g n)
  | wait => rfl
  | bad a c => rfl
theorem mend_skip {d : Int} {l : List UInt8} (hl : l ≠ []) (h : ∀ g n, recR l d ≠ .got g n) : mend d l = ((mend d (l.drop 1)).1, 1 + (mend d (l.drop 1)).2) := by
  have := List.length_pos_iff.2 hl
  unfold mend
  rw [mendR_skip hl h, mendR_fuel d l.length ((l.drop 1).length + 1) (l.drop 1) (by simp; omega) (by simp)]
theorem mend_len (d : Int) : ∀ (k : Nat) (l : List UInt8), l.length ≤ k → (mend d l).1.length ≤ l.length ∧ (mend d l).2 ≤ l.length := by
  intro k
  induction k with
  | zero =>
    intro l h
    have : l = [] := List.eq_nil_of_length_eq_zero (by omega)
    subst this; rw [mend_nil]; simp
  | succ k ih =>
    intro l h
    by_cases hl : l = []
    · subst hl; rw [mend_nil]; simp
    have hp := List.length_pos_iff.2 hl
    by_cases hg : ∃ g n, recR l d = .got g n
    · obtain ⟨g, n, hr⟩ := hg
      have h3 := recR_got hr
      have := ih (l.drop n) (by simp; omega)
      rw [List.length_drop] at this
      rw [mend_got hr]; simp only [List.length_cons]; omega
    · have := ih (l.drop 1) (by simp; omega)
      rw [List.length_drop] at this
      rw [mend_skip hl (fun g n e => hg ⟨g, n, e⟩)]; simp only; omega

/-- what Mend's loop keeps -/
structure MdS (w : World) (gs : List G) (av : Value) (W : World) : Prop where
  below : Below w.heap.size w W
  own : ∃ vs, W.ownsRow w.heap.size 51 4 av gs.length vs ∧ IsGs (fun b => w.heap.size ≤ b ∧ av.ownBlock ≠ some b) W gs vs
theorem MdS.under {w W W' : World} {gs : List G} {av : Value} (h : MdS w gs av W) (hb : Below W.heap.size W W') : MdS w gs av W' := by
  obtain ⟨vs, h1, h2⟩ := h.own
  exact ⟨h.below.trans (hb.mono h.below.size), vs, ownsRow_below h1 hb, h2.keeps (below_keeps hb _)⟩
theorem MdS.next {w W W2 W3 : World} {gs : List G} {av av' : Value} {vs cs : List Value} {g : G} (h : MdS w gs av W) (h1 : W.ownsRow w.heap.size 51 4 av gs.length vs) (h2 : IsGs (fun b => w.heap.size ≤ b ∧ av.ownBlock ≠ some b) W gs vs)
    (hb : Below W.heap.size W W2) (hg : IsG (fun b => W.heap.size ≤ b) W2 g cs) (h3 : W3.ownsRow w.heap.size 51 4 av' (gs.length + 1) (vs ++ cs)) (hgr : W2.grownBy W3 av.ownBlock) (ho : ∀ x, av'.ownBlock = some x → av.ownBlock = some x ∨ x = W2.heap.size) : MdS w (gs ++ [g]) av' W3 := by
  have hs := hb.size
  have hsw := h.below.size
  have hal := World.ownsRow.lt h1
  have hok : ∀ x, x < W2.heap.size → w.heap.size ≤ x ∧ av.ownBlock ≠ some x → (w.heap.size ≤ x ∧ av'.ownBlock ≠ some x) ∧ W3.heap[x]? = W2.heap[x]? := fun x hx hk =>
    ⟨⟨hk.1, fun e => (ho x e).elim hk.2 (fun e => by omega)⟩, hgr.block x hx (fun e => hk.2 e.symm)⟩
  refine ⟨(h.below.trans (hb.mono hsw)).grown hgr (by omega) (fun k e => (hal k e).1), vs ++ cs, by rw [List.length_append]; exact h3, ?_⟩
  have q1 := IsGs.imp (IsGs.keeps (below_keeps hb _) h2) hok
  have q2 : IsG (fun b => (W.heap.size ≤ b) ∧ b < W2.heap.size) W2 g cs := hg.mono fun x hx hk => ⟨hk, hx⟩
  have q3 := IsGs.one ((q2.keeps (w' := W3) fun x o hx ho2 _ => by rw [hgr.block x hx.2 (fun e => by have := (hal x e.symm).2; have := hx.1; omega)]; exact ho2).mono (ok' := fun x => w.heap.size ≤ x ∧ av'.ownBlock ≠ some x) fun x _ hx => ⟨by have := hx.1; omega, fun e => (ho x e).elim (fun e => by have := (hal x e).2; have := hx.1; omega) (fun e => by have := hx.2; omega)⟩)
  exact q1.append q3

set_option maxRecDepth 100000 in
set_option maxHeartbeats 2000000 in
theorem mend_any {ok : Nat → Prop} {v : Value} {B : List UInt8} (d : Int) (w : World) (hv : Bytes ok w v B) (hl : B.length ≤ 536870912) (hg : ErrT w) :
    Calls Tryd.prog 39 #[v, .int .i64 d] w fun e w' => ∃ av, e = .returned (.tuple #[av, .int .i64 (mend d B).2]) ∧ MdS w (mend d B).1 av w' := by
  obtain ⟨A, c, rfl, hc, hl2, hrow⟩ := hv
  have HV := Lib.hid (And.intro (show Bytes ok w (.slice A B.length c) B from ⟨_, _, rfl, hc, hl2, hrow⟩) hg)
  have HML := Lib.hid (mend_len d B.length B (Nat.le_refl _))
  clear hrow hg
  go_enter Tryd.func39, Tryd.ntmps39
  go_wp2_with fail
  go_loopw [8, 6, 7] (fun i av o W => ∃ (q over : Nat) (acc : List G), q ≤ B.length ∧ i = .int .i64 q ∧ o = .int .i64 over ∧ Hid (MdS w acc av W) ∧ Hid (acc ++ (mend d (B.drop q)).1 = (mend d B).1 ∧ over + (mend d (B.drop q)).2 = (mend d B).2)) (fun i _ _ _ => B.length - (intOf i).toNat)
  case atStart => exact ⟨0, 0, [], Nat.zero_le _, rfl, rfl, Lib.hid ⟨Below.refl _ _, [], World.ownsRow_nil _ _ _ _, by simp [IsGs]⟩, Lib.hid ⟨by simp, by simp⟩⟩
  case round =>
    obtain ⟨q, over, acc, hq, rfl, rfl, HS, HE⟩ := hrel
    by_cases hql : q < B.length
    · have hne : B.drop q ≠ [] := by intro e; have h := congrArg List.length e; simp at h; omega
      have hbl := HS.out.below
      have hacc : acc.length ≤ 536870912 := by
        have h := congrArg List.length HE.out.1
        have h2 := HML.out.1
        rw [List.length_append] at h
        generalize (mend d B).1.length = x at h h2
        generalize (mend d (B.drop q)).1.length = y at h
        omega
      have hov : over ≤ 536870912 := by
        have h := HE.out.2
        have h2 := HML.out.2
        generalize (mend d B).2 = x at h h2
        generalize (mend d (B.drop q)).2 = y at h
        omega
      have HR := Lib.hid (record_any d wr (HV.out.2.below hbl) ((bytes_from HV.out.1 q hq).keepB hbl))
      rw [if_neg (show ¬ c = q by omega)] at HR
      obtain ⟨vs, ho1, hg1⟩ := HS.out.own
      have HO1 := Lib.hid (And.intro ho1 hg1)
      have hsw := hbl.size
      have hqi : (q : Int) < (B.length : Int) := by omega
      have hqi0 : (0 : Int) ≤ (q : Int) := by omega
      have hqc : (B.length : Int) ≤ (c : Int) := by omega
      have HNE := Lib.hid hne
      clear ho1 hg1 hbl hne
      go_wp2_with fail
      refine HR.out.mono ?_
      rintro e w1 hp
      obtain ⟨ki, A1, n1, c1, A2, n2, c2, A3, n3, c3, n, fv, rfl, hb1, hm⟩ := recM_of hp
      have hs1 := hb1.size
      cases hr : recR (B.drop q) d with
      | wait =>
          rw [hr] at hm
          obtain ⟨rfl, rfl⟩ := hm
          have HM := Lib.hid (MdS.under (MdS.under HS.out hb1) ((Below.refl w1.heap.size w1).alloc (Nat.le_refl _) (.cells #[.int .i64 ki, .slice A1 n1 c1, .slice A2 n2 c2, .slice A3 n3 c3] 51)))
          have HK := Lib.hid (mend_skip HNE.out (d := d) (by intro g n e; rw [hr] at e; cases e))
          clear hb1 hr hp
          go_wp2_with fail
          go_roundw
          · refine ⟨q + 1, over + 1, acc, hql, by simp, by simp, HM, Lib.hid ?_⟩
            have h := HE.out
            rw [HK.out, List.drop_drop] at h
            simp only at h
            exact ⟨h.1, by rw [← h.2]; generalize (mend d (List.drop (q + 1) B)).2 = x; omega⟩
          · simp [intOf]; omega
      | bad x1 x2 =>
          rw [hr] at hm
          obtain ⟨rfl, fb, rfl, _⟩ := hm
          have HM := Lib.hid (MdS.under (MdS.under HS.out hb1) ((Below.refl w1.heap.size w1).alloc (Nat.le_refl _) (.cells #[.int .i64 ki, .slice A1 n1 c1, .slice A2 n2 c2, .slice A3 n3 c3] 51)))
          have HK := Lib.hid (mend_skip HNE.out (d := d) (by intro g n e; rw [hr] at e; cases e))
          clear hb1 hr hp
          go_wp2_with fail
          go_roundw
          · refine ⟨q + 1, over + 1, acc, hql, by simp, by simp, HM, Lib.hid ?_⟩
            have h := HE.out
            rw [HK.out, List.drop_drop] at h
            simp only at h
            exact ⟨h.1, by rw [← h.2]; generalize (mend d (List.drop (q + 1) B)).2 = x; omega⟩
          · simp [intOf]; omega
      | got g m =>
          rw [hr] at hm
          obtain ⟨hgi, rfl, rfl⟩ := hm
          have hgm := recR_got hr
          have hm0 : ((m : Int) == 0) = false := beq_eq_false_iff_ne.2 (by omega)
          have hml : m ≤ B.length - q := by have := hgm.2; rw [List.length_drop] at this; exact this
          have HK := Lib.hid (mend_got hr)
          obtain ⟨w2, hw2⟩ : ∃ w2, w2 = w1.alloc (.cells #[.int .i64 ki, .slice A1 n1 c1, .slice A2 n2 c2, .slice A3 n3 c3] 51) := ⟨_, rfl⟩
          have hb2 : Below w1.heap.size w1 w2 := by rw [hw2]; exact (Below.refl _ _).alloc (Nat.le_refl _) _
          have hx2 : w2.heap[w1.heap.size]? = some (.cells #[.int .i64 ki, .slice A1 n1 c1, .slice A2 n2 c2, .slice A3 n3 c3] 51 (0, 0)) := by rw [hw2]; exact World.alloc_heap_new _ _
          have hs2 := hb2.size
          have g0 := cell_row (cs := [_, _, _, _]) (j := 0) hx2 rfl
          have g1 := cell_row (cs := [_, _, _, _]) (j := 1) hx2 rfl
          have g2 := cell_row (cs := [_, _, _, _]) (j := 2) hx2 rfl
          have g3 := cell_row (cs := [_, _, _, _]) (j := 3) hx2 rfl
          have ha2 := (Below.refl w2.heap.size w2).alloc (Nat.le_refl _) (.cells #[.int .i64 ki, .slice A1 n1 c1, .slice A2 n2 c2, .slice A3 n3 c3] 51)
          have hxa2 : (w2.alloc (.cells #[.int .i64 ki, .slice A1 n1 c1, .slice A2 n2 c2, .slice A3 n3 c3] 51)).heap[w2.heap.size]? = some (.cells #[.int .i64 ki, .slice A1 n1 c1, .slice A2 n2 c2, .slice A3 n3 c3] 51 (0, 0)) := World.alloc_heap_new _ _
          have hbr2 : Below wr.heap.size wr w2 := hb1.trans (hb2.mono hs1)
          have HO := Lib.hid (And.intro (ownsRow_below (ownsRow_below HO1.out.1 hbr2) ha2) (And.intro hxa2 (And.intro (hbr2.trans (ha2.mono hbr2.size)) (hgi.keeps (below_keeps (hb2.trans (ha2.mono hs2)) _)))))
          clear hb1 hb2 hx2 ha2 hxa2 hbr2 hgi hr hp
          go_upto_region 6 with (fail)
          rw [← hw2]
          clear hw2
          go_wp2_with (first
            | (at_builtin
               go_must (
               refine (list_appendG rfl (.tmp 35) (.tmp 37) rfl u6 (by rfl) (by rfl) HO.out.1 (fun i u hi => cell_row (cs := [_, _, _, _]) HO.out.2.1 hi) (by simp [Value.oneCell']) (by omega) (Nat.le_trans hsw HO.out.2.2.1.size) ?_)
               intro q4 cap4 w4 ho4 hgr4 hq4 hlt4
               have HR4 := Lib.hid (And.intro ho4 (And.intro hgr4 hq4))
               clear ho4 hgr4 hq4))
            | fail)
          go_roundw
          · refine ⟨q + m, over, acc ++ [g], by omega, by simp, rfl, Lib.hid ?_, Lib.hid ?_⟩
            · refine MdS.next HS.out HO1.out.1 HO1.out.2 HO.out.2.2.1 (cs := [_, _, _, _]) HO.out.2.2.2 HR4.out.1 HR4.out.2.1 ?_
              intro x hx
              simp only [Value.ownBlock, Option.some.injEq] at hx
              subst hx
              exact HR4.out.2.2
            · have h := HE.out
              rw [HK.out, List.drop_drop] at h
              simp only at h
              exact ⟨by rw [← h.1]; simp, h.2⟩
          · simp [intOf]; omega
    · have hqe : q = B.length := by omega
      subst hqe
      have he := HE.out
      rw [List.drop_length, mend_nil] at he
      have h1 : acc = (mend d B).1 := by simpa using he.1
      have h2 : over = (mend d B).2 := by simpa using he.2
      have HH := Lib.hid (And.intro h1 h2)
      clear he h1 h2
      have hqi : ¬ (B.length : Int) < (B.length : Int) := by omega
      go_wp2_with fail
      go_ret2
      exact ⟨_, by rw [← HH.out.2]; rfl, by rw [← HH.out.1]; exact HS.out⟩

/-- where no mark begins there is no record -/
theorem rec_none {x : UInt8} {l : List UInt8} {d : Int} (hx : x ≠ 80) : ∀ g n, recR (x :: l) d ≠ .got g n := by
  intro g n h
  unfold recR at h
  by_cases h8 : (x :: l).length < 8
  · rw [if_pos h8] at h; cases h
  · rw [if_neg h8, if_pos (by
      intro e
      have := congrArg (·[0]?) e
      simp [markB] at this
      exact hx this)] at h
    cases h
theorem mend_over (d : Int) : ∀ (g m : List UInt8), (∀ x ∈ g, x ≠ 80) → mend d (g ++ m) = ((mend d m).1, g.length + (mend d m).2)
  | [], m, _ => by simp
  | x :: g, m, h => by
    have ih := mend_over d g m (fun y hy => h y (by simp [hy]))
    rw [List.cons_append, mend_skip (by simp) (rec_none (h x (by simp)))]
    simp only [List.drop_succ_cons, List.drop_zero, ih, List.length_cons]
    rw [show 1 + (g.length + (mend d m).2) = g.length + 1 + (mend d m).2 by omega]
theorem mend_rec {s : Shp} (hs : s.ok) (m : List UInt8) : mend 256 (s.bytes ++ m) = (s.made :: (mend 256 m).1, (mend 256 m).2) := by
  have he := made_enc hs s.lt
  have h := rec_frame s.lt s.made (made_well hs) (by omega) m
  have := mend_got (l := s.bytes ++ m) h
  rw [show frameB (encG [s.lt] s.made 0) = s.bytes from rfl, List.drop_left] at this
  exact this
/-- records with bytes between -/
def between (gap : List UInt8) (l : List Shp) : List UInt8 := l.flatMap fun s => gap ++ s.bytes
theorem mend_between {gap : List UInt8} (hg : ∀ x ∈ gap, x ≠ 80) : ∀ (l : List Shp), (∀ s ∈ l, s.ok) → mend 256 (between gap l ++ gap) = (l.map Shp.made, gap.length * (l.length + 1))
  | [], _ => by
    have := mend_over 256 gap [] hg
    rw [mend_nil, List.append_nil] at this
    simp [between, this]
  | s :: l, h => by
    have ih := mend_between hg l (fun x hx => h x (by simp [hx]))
    unfold between at ih ⊢
    rw [List.flatMap_cons, List.append_assoc, List.append_assoc, mend_over 256 _ _ hg, mend_rec (h s (by simp)), ih]
    simp only [List.map_cons, List.length_cons, Prod.mk.injEq, true_and]
    rw [Nat.mul_add gap.length (l.length + 1) 1]; omega
theorem mend_joined : ∀ (l : List Shp), (∀ s ∈ l, s.ok) → mend 256 (l.map Shp.bytes).flatten = (l.map Shp.made, 0)
  | [], _ => by simp [mend_nil]
  | s :: l, h => by
    rw [List.map_cons, List.flatten_cons, mend_rec (h s (by simp)), mend_joined l (fun x hx => h x (by simp [hx]))]
    simp
def fixB (x : UInt8) : UInt8 := if x = 80 then 81 else x
theorem fixB_ne (x : UInt8) : fixB x ≠ 80 := by
  unfold fixB
  split
  · decide
  · assumption
theorem fix_step {g : List UInt8} {k : Nat} {x : UInt8} (hx : g[k]? = some x) : ((g.take k).map fixB ++ g.drop k).set k (fixB x) = (g.take (k + 1)).map fixB ++ g.drop (k + 1) := by
  have hk : k < g.length := (List.getElem?_eq_some_iff.1 hx).1
  have hl : ((g.take k).map fixB).length = k := by simp; omega
  have hd : g.drop k = x :: g.drop (k + 1) := by
    rw [List.drop_eq_getElem_cons hk]
    rw [List.getElem?_eq_getElem hk] at hx
    rw [Option.some.inj hx]
  rw [take_snoc hx, List.map_append, List.set_append_right _ _ (by omega), hl, Nat.sub_self, hd]
  simp
theorem fix_at {g : List UInt8} {k : Nat} {x : UInt8} (hx : g[k]? = some x) : ((g.take k).map fixB ++ g.drop k)[k]? = some x := by
  have hk : k < g.length := (List.getElem?_eq_some_iff.1 hx).1
  rw [List.getElem?_append_right (by simp; omega)]
  simp
  rw [Nat.min_eq_left (by omega), show k + (k - k) = k by omega]; exact hx
theorem between_next {gap : List UInt8} {l : List Shp} {k : Nat} {s : Shp} (h : l[k]? = some s) : between gap (l.take (k + 1)) = between gap (l.take k) ++ gap ++ s.bytes := by
  unfold between; rw [take_snoc h]; simp
theorem between_len {gap : List UInt8} : ∀ (l : List Shp), (∀ s ∈ l, s.ok) → (between gap l).length ≤ (gap.length + 4012) * l.length
  | [], _ => by simp [between]
  | s :: l, h => by
    have h1 := between_len (gap := gap) l (fun x hx => h x (by simp [hx]))
    have h2 := (rec_len (h s (by simp))).2
    unfold between at h1 ⊢
    rw [List.flatMap_cons, List.length_append, List.length_append, List.length_cons, Nat.mul_add]
    omega
end Go.Proofs.YtlffgepnhhnadaaDoor.Pl
