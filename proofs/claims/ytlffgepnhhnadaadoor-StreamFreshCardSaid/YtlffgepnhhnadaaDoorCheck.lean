/- tree.Check, walked. What is handed in lies as lists (Mem); no geometry's own points are beyond counting. -/
import Derived.Test.YtlffgepnhhnadaaDoorWalk
import Derived.Stop.RegionWithIn
namespace Go.Proofs.YtlffgepnhhnadaaDoor.Pl
open Go.RowKit Go.Shelf
attribute [local go_sem] Oper.semAt_some

/-- a geometry of these -/
abbrev Of (xs : List Spot) := { x : Spot // x ∈ xs }

theorem all1_stops (n : Nat) (S ok : Nat → Prop) (w : World) (hS : ∀ b, ok b → ¬ S b) (hSl : ∀ b, S b → b < w.heap.size) (Bt b o : Nat) (hBt : w.cell? ⟨Bt, 0, none⟩ = some (.pointer (some ⟨b, o, none⟩))) (g : G) (hA : AtG ok w b o g) (hd : depth g ≤ 1152921504606846975)
    (xs : List Spot) (hxs : xs = spots w g b o 1 0) :
    SeqStopsK Fence.wide n Tryd.prog 102 #[.pointer (some ⟨Bt, 0, none⟩)] (fun x : Of xs => x.1.enc) (KeepC S) (fun ys => ys.map Subtype.val = xs) (fun pre => pre.map Subtype.val <+: xs) xs.length w := by
  intro l J Jx W hW hJ _ hY h0
  have hb := (hW.cell (p := ⟨Bt, 0, none⟩) (lt_of_cell hBt)).trans hBt
  have hw := walk_in l xs S ok w hS hSl (fun pre W => ∃ q : List (Of xs), q.map Subtype.val = pre ∧ J q W) (fun pre W => ∃ q : List (Of xs), q.map Subtype.val = pre ∧ Jx q W)
    (fun pre W W' ⟨q, hq, h⟩ k => ⟨q, hq, hJ q W W' none h k (fun r e => by cases e)⟩)
    (fun m pre x W1 ⟨q, hq, hj⟩ hl => by
      have hx : x ∈ xs := hl.subset (by simp)
      have hlen : q.length < xs.length := by have := hl.length_le; rw [← hq] at this; simp at this; omega
      refine YieldAt.mono (yieldAt_any rfl m (hY q ⟨x, hx⟩ W1 hj hlen)) fun e W2 h => h.elim (fun ⟨a, b, c⟩ => .inl ⟨a, ⟨q ++ [⟨x, hx⟩], by simp [hq], b⟩, c⟩) (fun ⟨a, b⟩ => .inr ⟨a, ⟨q ++ [⟨x, hx⟩], by simp [hq], b⟩⟩))
    (depth g) g (Nat.le_refl _) (n - 1) b o 1 0 [] W (.of_below hW) hA ⟨[], rfl, h0⟩ (by rw [hxs]; exact List.prefix_refl _) (by omega) (by omega)
  rw [← hxs] at hw
  have HW := Lib.hid hw
  clear hw hY h0
  refine callsIn_of_wp Tryd.func102 rfl trivial ?_ rfl
  simp only [Tryd.ntmps102, List.size_toArray, List.length_cons, List.length_nil, Nat.reduceAdd, Nat.reduceSub, Array.replicate_succ, Array.replicate_zero, List.push_toArray, List.append_toArray, List.nil_append, List.cons_append]
  gi_wp2_with fail
  refine ⟨trivial, (fun h => by cases h), HW.out.mono ?_⟩
  clear HW
  rintro e W1 (⟨rfl, ⟨q, hq, hJ1⟩, _⟩ | ⟨rfl, q, hq, q2, hq2, hx⟩)
  · gi_wp2
    go_end0
    exact ⟨⟨_, rfl⟩, .inl ⟨q, by simpa using hq, hJ1⟩⟩
  · gi_wp2
    go_end0
    exact ⟨⟨_, rfl⟩, .inr ⟨q2, by rw [hq2]; simpa using hq, hx⟩⟩

theorem all_any (b o : Nat) (w : World) : Calls Tryd.prog 84 #[.pointer (some ⟨b, o, none⟩)] w fun e w' =>
    e = .returned (.func (.func 102) #[] #[.pointer (some ⟨w.heap.size, 0, none⟩)]) ∧ w' = w.alloc (.cells #[.pointer (some ⟨b, o, none⟩)] 158) := by
  go_enter Tryd.func84, Tryd.ntmps84
  go_wp2
  go_ret
  exact ⟨rfl, rfl⟩

/-- geometries and points so far -/
def tot (l : List Spot) : Nat := (l.map fun x => 1 + ownN x.g).sum
theorem tot_snoc (l : List Spot) (x : Spot) : tot (l ++ [x]) = tot l + (1 + ownN x.g) := by simp [tot]
def goodS (l : List Spot) : Prop := ∀ p x, p ++ [x] <+: l → wrongE x.g x.level x.home (tot (p ++ [x])) = 0

/-- the world where Check's loop begins -/
def ChkW (w : World) (kd : Int) (v1 v2 v3 : Value) : World :=
  ((((w.alloc (.cells #[.int .i64 kd, v1, v2, v3] 51)).alloc (.cells #[.nilIface] 45)).alloc (.cells #[.int .i64 0] 3)).alloc (.cells #[.int .i64 0] 3)).alloc (.cells #[.pointer (some ⟨w.heap.size, 0, none⟩)] 158)
def ChkS (B b : Nat) : Prop := b = B + 1 ∨ b = B + 1 + 1 ∨ b = B + 1 + 1 + 1
def ChkI (w : World) (w5 : World) (xs : List Spot) (pre : List (Of xs)) (W : World) : Prop :=
  (goodS (pre.map Subtype.val) ∧ Boxed W (w.heap.size + 1) 45 .nilIface ∧ Boxed W (w.heap.size + 1 + 1) 3 (.int .i64 pre.length) ∧ Boxed W (w.heap.size + 1 + 1 + 1) 3 (.int .i64 (tot (pre.map Subtype.val)))) ∧ KeepC (ChkS w.heap.size) w5 W ∧ Below w.heap.size w W
def ChkX (w : World) (xs : List Spot) (pre : List (Of xs)) (W : World) : Prop :=
  (∃ q x bf, pre.map Subtype.val = q ++ [x] ∧ goodS q ∧ wrongE x.g x.level x.home (tot (q ++ [x])) ≠ 0 ∧ w.heap.size ≤ bf ∧ Boxed W (w.heap.size + 1) 45 (.iface 87 (.pointer (some ⟨bf, 0, none⟩))) ∧
    W.cell? ⟨bf, 0, none⟩ = some (.int .i64 q.length) ∧ W.cell? ⟨bf, 1, none⟩ = some (.iface 22 (.int .i64 (wrongE x.g x.level x.home (tot (q ++ [x])))))) ∧ Below w.heap.size w W

theorem keepC_own {B : Nat} {S : Nat → Prop} {w5 : World} {β : Type} : OwnFrom (β := β) B (fun _ W => KeepC S w5 W) := by
  intro s W W' row h hg hr
  refine ⟨Nat.le_trans h.1 hg.size, fun b o hb ho hc => ?_⟩
  have h1 := h.2 b o hb ho hc
  refine (hg.block b (lt_of_heap h1) (fun e => ?_)).trans h1
  obtain ⟨_, o', ho', hc'⟩ := hr b e.symm
  rw [h1] at ho'; cases ho'; rw [hc] at hc'; cases hc'

theorem chkI_own (w w5 : World) (hs : w.heap.size ≤ w5.heap.size) (xs : List Spot) : OwnFrom w5.heap.size (ChkI w w5 xs) := by
  refine OwnFrom.and (Own.from (fun s A B row h hg hr => ?_) _) (OwnFrom.and keepC_own (ownFrom_below (Nat.le_refl _) hs))
  have ne : ∀ {b t v}, Boxed A b t v → some b ≠ row := fun hb e => by
    obtain ⟨o, ho, hc⟩ := hr _ e.symm
    rw [show A.heap[_]? = _ from hb] at ho; cases ho; cases hc
  exact ⟨h.1, h.2.1.kept hg (ne h.2.1), h.2.2.1.kept hg (ne h.2.2.1), h.2.2.2.kept hg (ne h.2.2.2)⟩

theorem cell_kept' {W W' : World} {row : Option Nat} {a : Addr} {v : Value} (h : W.cell? a = some v) (hg : W.grownBy W' row) (hr : ∀ r, row = some r → ∃ o : Obj, W.heap[r]? = some o ∧ o.isCells = false) : W'.cell? a = some v := by
  obtain ⟨o, ho, hc⟩ := cells_of_cell h
  have e : W'.heap[a.block]? = W.heap[a.block]? := hg.block a.block (lt_of_heap ho) (fun e => by
    obtain ⟨o', ho', hc'⟩ := hr _ e.symm
    rw [ho] at ho'; cases ho'; rw [hc] at hc'; cases hc')
  rw [World.cell?_of_block (w := W) e]; exact h

theorem chkX_own (w w5 : World) (hs : w.heap.size ≤ w5.heap.size) (xs : List Spot) (c : Code) : OwnFrom w5.heap.size (fun pre W => c = .ret ∧ ChkX w xs pre W) := by
  intro s A B row ⟨hc, ⟨q, x, bf, h1, h2, h3, h4, h5, h6, h7⟩, h8⟩ hg hr
  refine ⟨hc, ⟨q, x, bf, h1, h2, h3, h4, h5.kept hg (fun e => ?_), cell_kept' h6 hg (fun r e => (hr r e).2), cell_kept' h7 hg (fun r e => (hr r e).2)⟩, ?_⟩
  · obtain ⟨_, o, ho, hc⟩ := hr _ e.symm
    rw [show A.heap[_]? = _ from h5] at ho; cases ho; cases hc
  · exact ownFrom_below (β := Unit) (B := w5.heap.size) (Nat.le_refl _) hs () A B row h8 hg hr

mutual
theorem spots_at {ok : Nat → Prop} {w : World} : ∀ (g : G) (b o : Nat) (lv hm : Int), AtG ok w b o g → ∀ x ∈ spots w g b o lv hm, AtG ok w x.b x.o x.g
  | .mk k l r p, b, o, lv, hm, h, x, hx => by
    simp only [spots, List.mem_cons] at hx
    rcases hx with rfl | hx
    · exact h
    · obtain ⟨A, c, _, _, _, hk⟩ := h.kids
      by_cases hn : p = []
      · subst hn; simp [spotss] at hx
      · obtain ⟨b3, o3, _, hka, hat⟩ := hk hn
        rw [hka] at hx
        exact spotss_at p b3 o3 (lv + 1) k hat x hx
theorem spotss_at {ok : Nat → Prop} {w : World} : ∀ (p : List G) (b o : Nat) (lv hm : Int), (∀ i g, p[i]? = some g → AtG ok w b (o + i * 4) g) → ∀ x ∈ spotss w p b o lv hm, AtG ok w x.b x.o x.g
  | [], _, _, _, _, _, x, hx => by simp [spotss] at hx
  | g :: gs, b, o, lv, hm, h, x, hx => by
    simp only [spotss, List.mem_append] at hx
    rcases hx with hx | hx
    · exact spots_at g b o lv hm (by simpa using h 0 g rfl) x hx
    · exact spotss_at gs b (o + 4) lv hm (fun i g' hi => by have := h (i + 1) g' (by simpa using hi); rwa [show o + (i + 1) * 4 = o + 4 + i * 4 from by omega] at this) x hx
end

/-- what is known of the world where the loop begins -/
structure ChkF (w w5 : World) (g : G) : Prop where
  size : w5.heap.size = w.heap.size + 1 + 1 + 1 + 1 + 1
  below : Below w.heap.size w w5
  err : Boxed w5 (w.heap.size + 1) 45 .nilIface
  at_ : Boxed w5 (w.heap.size + 1 + 1) 3 (.int .i64 0)
  tot : Boxed w5 (w.heap.size + 1 + 1 + 1) 3 (.int .i64 0)
  ptr : w5.cell? ⟨w.heap.size + 1 + 1 + 1 + 1, 0, none⟩ = some (.pointer (some ⟨w.heap.size, 0, none⟩))
  tree : AtG (fun b => b ≤ w.heap.size) w5 w.heap.size 0 g

theorem chkF_of {ok : Nat → Prop} (w : World) (kd : Int) (v1 v2 v3 : Value) (g : G) (hk : g.kind = kd) (hg : IsG ok w g [.int .i64 kd, v1, v2, v3]) : ChkF w (ChkW w kd v1 v2 v3) g := by
  have hb : Below w.heap.size w (ChkW w kd v1 v2 v3) := (((((Below.refl _ w).alloc (Nat.le_refl _) _).alloc (by simp) _).alloc (by simp; omega) _).alloc (by simp; omega) _).alloc (by simp; omega) _
  refine ⟨by simp [ChkW], hb, ?_, ?_, ?_, ?_, ?_⟩
  · have h := (((Boxed.new (w.alloc (.cells #[.int .i64 kd, v1, v2, v3] 51)) 45 .nilIface).alloc (.cells #[.int .i64 0] 3)).alloc (.cells #[.int .i64 0] 3)).alloc (.cells #[.pointer (some ⟨w.heap.size, 0, none⟩)] 158)
    rwa [World.size_alloc] at h
  · have h := ((Boxed.new ((w.alloc (.cells #[.int .i64 kd, v1, v2, v3] 51)).alloc (.cells #[.nilIface] 45)) 3 (.int .i64 0)).alloc (.cells #[.int .i64 0] 3)).alloc (.cells #[.pointer (some ⟨w.heap.size, 0, none⟩)] 158)
    rwa [World.size_alloc, World.size_alloc] at h
  · have h := (Boxed.new (((w.alloc (.cells #[.int .i64 kd, v1, v2, v3] 51)).alloc (.cells #[.nilIface] 45)).alloc (.cells #[.int .i64 0] 3)) 3 (.int .i64 0)).alloc (.cells #[.pointer (some ⟨w.heap.size, 0, none⟩)] 158)
    rwa [World.size_alloc, World.size_alloc, World.size_alloc] at h
  · have h := (Boxed.new ((((w.alloc (.cells #[.int .i64 kd, v1, v2, v3] 51)).alloc (.cells #[.nilIface] 45)).alloc (.cells #[.int .i64 0] 3)).alloc (.cells #[.int .i64 0] 3)) 158 (.pointer (some ⟨w.heap.size, 0, none⟩))).cell
    rwa [World.size_alloc, World.size_alloc, World.size_alloc, World.size_alloc] at h
  · have h0 : (ChkW w kd v1 v2 v3).heap[w.heap.size]? = some (.cells #[.int .i64 kd, v1, v2, v3] 51 (0, 0)) := by
      unfold ChkW
      rw [Below.heap_alloc _ _ _ (by simp; omega), Below.heap_alloc _ _ _ (by simp; omega), Below.heap_alloc _ _ _ (by simp; omega), Below.heap_alloc _ _ _ (by simp)]
      exact World.alloc_heap_new _ _
    refine ⟨v1, v2, v3, ?_, Nat.le_refl _, ?_, ?_, ?_, ?_⟩
    · rw [hk]; exact ((hg.mono (ok' := fun b => b < w.heap.size) (fun b hb _ => hb)).keeps (below_keeps hb _)).mono (fun b _ h => Nat.le_of_lt h)
    all_goals simp [World.cell?, h0, hk]

theorem good_tot (l : List Spot) (h : goodS l) : tot l ≤ 65536 := by
  rcases List.eq_nil_or_concat l with rfl | ⟨q, x, rfl⟩
  · simp [tot]
  · have h1 := h q x (by simp)
    unfold wrongE at h1
    split at h1
    · simp at h1
    · split at h1
      · simp at h1
      · split at h1
        · simp at h1
        · simp at *; omega

/-- what is known within a round, of a world W1 behind the round's begin W -/
structure ChkR (w W W1 : World) (n T : Nat) (Bx : Nat) (x : Spot) : Prop where
  er : Boxed W1 (w.heap.size + 1) 45 .nilIface
  at_ : Boxed W1 (w.heap.size + 1 + 1) 3 (.int .i64 n)
  tt : Boxed W1 (w.heap.size + 1 + 1 + 1) 3 (.int .i64 T)
  sp : W1.heap[Bx]? = some (.cells #[.pointer (some ⟨x.b, x.o, none⟩), .int .i64 x.level, .int .i64 x.home] 160 (0, 0))
  tree : AtG (fun b => b ≤ w.heap.size) W1 x.b x.o x.g
  kc : KeepC (ChkS w.heap.size) W W1
  ko : KeepsOthers W W1
  bl : Below w.heap.size w W1

theorem ChkR.below {w W W1 W2 : World} {n T Bx : Nat} {x : Spot} (h : ChkR w W W1 n T Bx x) (hb : Below W1.heap.size W1 W2) : ChkR w W W2 n T Bx x :=
  ⟨(hb.block _ h.er.lt).trans h.er, (hb.block _ h.at_.lt).trans h.at_, (hb.block _ h.tt.lt).trans h.tt, (hb.block _ (lt_of_heap h.sp)).trans h.sp, h.tree.keeps (below_keeps hb _), h.kc.trans (.of_below hb),
    h.ko.trans ⟨hb.size, fun k _ hk _ => (hb.block k (lt_of_heap hk)).trans hk⟩, h.bl.trans (hb.mono h.bl.size)⟩

theorem chkR_store {w W : World} {n T T' Bx : Nat} {x : Spot} (h1 : Boxed W (w.heap.size + 1) 45 .nilIface) (h2 : Boxed W (w.heap.size + 1 + 1) 3 (.int .i64 n)) (h3 : Boxed W (w.heap.size + 1 + 1 + 1) 3 (.int .i64 T))
    (h4 : W.heap[Bx]? = some (.cells #[.pointer (some ⟨x.b, x.o, none⟩), .int .i64 x.level, .int .i64 x.home] 160 (0, 0))) (hB : w.heap.size + 5 ≤ Bx) (h5 : AtG (fun b => b ≤ w.heap.size) W x.b x.o x.g) (h6 : Below w.heap.size w W) :
    ChkR w W (W.setCell ⟨w.heap.size + 1 + 1 + 1, 0, none⟩ (.int .i64 T')).drew n T' Bx x := by
  have hk : KeepC (ChkS w.heap.size) W (W.setCell ⟨w.heap.size + 1 + 1 + 1, 0, none⟩ (.int .i64 T')).drew :=
    ⟨by simp [World.setCell, World.drew], fun b _ hb ho _ => (Below.heap_setCell W _ _ b (by show b ≠ w.heap.size + 1 + 1 + 1; intro e; exact hb (.inr (.inr e)))).trans ho⟩
  refine ⟨h1.other (by omega) _, h2.other (by omega) _, h3.set _, (Below.heap_setCell W _ _ Bx (by show Bx ≠ w.heap.size + 1 + 1 + 1; omega)).trans h4, h5.keeps (hk.keeps (fun b h h' => by unfold ChkS at h'; omega)), hk, (KeepsOthers.setCell _ _ _).trans (KeepsOthers.drew _), (h6.setCell (by show w.heap.size ≤ w.heap.size + 1 + 1 + 1; omega) _).drew⟩

theorem len_le_tot (l : List Spot) : l.length ≤ tot l := by
  induction l with
  | nil => simp [tot]
  | cons x l ih => simp [tot] at *; omega

theorem goodS_snoc {l : List Spot} {x : Spot} (h : goodS l) (hx : wrongE x.g x.level x.home (tot (l ++ [x])) = 0) : goodS (l ++ [x]) := by
  intro p y hp
  rcases List.prefix_concat_iff.1 hp with h1 | h1
  · have h2 := List.append_inj' h1 rfl
    obtain ⟨rfl, h3⟩ := h2
    cases h3
    exact hx
  · exact h p y h1

theorem checkGo_good : ∀ (r pre : List Spot), goodS (pre ++ r) → checkGo (r.map Spot.it) pre.length (tot pre) = none
  | [], _, _ => rfl
  | x :: r, pre, h => by
    have h1 := h pre x (by simp)
    rw [tot_snoc] at h1
    simp only [List.map_cons, checkGo, Spot.it]
    rw [if_pos h1]
    have := checkGo_good r (pre ++ [x]) (by simpa using h)
    rw [tot_snoc] at this
    simpa using this
theorem checkGo_bad (x : Spot) (e : Int) : ∀ (q r pre : List Spot), goodS (pre ++ q) → wrongE x.g x.level x.home (tot (pre ++ q ++ [x])) = e → e ≠ 0 → checkGo ((q ++ x :: r).map Spot.it) pre.length (tot pre) = some (((pre ++ q).length : Int), e)
  | [], r, pre, _, h2, h3 => by
    simp only [List.append_nil] at h2
    rw [tot_snoc] at h2
    simp only [List.nil_append, List.map_cons, checkGo, Spot.it]
    rw [if_neg (by rw [h2]; exact h3), h2]; simp
  | y :: q, r, pre, h, h2, h3 => by
    have h1 := h pre y (by simp)
    rw [tot_snoc] at h1
    simp only [List.cons_append, List.map_cons, checkGo, Spot.it]
    rw [if_pos h1]
    have := checkGo_bad x e q r (pre ++ [y]) (by simpa using h) (by simpa using h2) h3
    rw [tot_snoc] at this
    simpa using this

/-- what Check answers -/
def ChkPost (w : World) (g : G) (e : Ending) (w' : World) : Prop := ∃ v, e = .returned v ∧ IsErr (fun b => w.heap.size ≤ b) w' v (checkR g) ∧ Below w.heap.size w w'

theorem below_putObj {w W : World} {D : Nat} (h : Below w.heap.size w W) (hD : w.heap.size ≤ D) (o : Obj) : Below w.heap.size w (W.putObj D o) :=
  h.grown (grownBy_putObj' W D o) h.size (fun k e => by cases e; exact hD)
theorem cell_putObj {W : World} {D : Nat} {o o' : Obj} {a : Addr} {v : Value} (hD : W.heap[D]? = some o) (ho : o.isCells = false) (h : W.cell? a = some v) : (W.putObj D o').cell? a = some v :=
  cell_kept' h (grownBy_putObj' W D o') (fun r e => by cases e; exact ⟨o, hD, ho⟩)

theorem keepC_putObj {S : Nat → Prop} {W : World} {l : Nat} {o o' : Obj} (ho : W.heap[l]? = some o) (hc : o.isCells = false) : KeepC S W (W.putObj l o') := by
  have hg := grownBy_putObj' W l o'
  refine ⟨hg.size, fun b ob _ hb hbc => (hg.block b (lt_of_heap hb) (fun e => ?_)).trans hb⟩
  cases e; rw [ho] at hb; cases hb; rw [hc] at hbc; cases hbc

set_option maxRecDepth 100000 in
theorem check_any {ok : Nat → Prop} {g : G} {cs : List Value} (w : World) (hg : IsG ok w g cs) (hd : depth g ≤ 1152921504606846975) (hown : SmallG g) :
    Calls Tryd.prog 63 #[.agg cs.toArray] w (ChkPost w g) := by
  obtain ⟨kd, l, r, p⟩ := g
  have hg' := hg
  simp only [IsG] at hg'
  obtain ⟨v1, v2, v3, rfl, _⟩ := hg'
  have hF := chkF_of w kd v1 v2 v3 _ rfl hg
  obtain ⟨w5, hw5⟩ : ∃ w5, ChkW w kd v1 v2 v3 = w5 := ⟨_, rfl⟩
  rw [hw5] at hF
  refine (callsIn_wide (n := 3)).1 ?_
  refine callsIn_of_wp_marks Tryd.func63 rfl trivial ?_ rfl
  simp only [Tryd.ntmps63, List.size_toArray, List.length_cons, List.length_nil, Nat.reduceAdd, Nat.reduceSub, Array.replicate_succ, Array.replicate_zero, List.push_toArray, List.append_toArray, List.nil_append, List.cons_append]
  have HF := Lib.hid hF
  have HW5 := Lib.hid hw5
  clear hF hw5
  gi_wp2_with fail
  refine ⟨trivial, (callsIn_wide.2 (all_any _ _ _)).mono ?_⟩
  rintro e w' ⟨rfl, rfl⟩
  gi_wp2_with fail
  change Code.wpIn _ _ _ _ _ _ (ChkW w kd v1 v2 v3)
  rw [HW5.out]
  obtain ⟨xs, hxs⟩ : ∃ xs, xs = spots w5 (.mk kd l r p) w.heap.size 0 1 0 := ⟨_, rfl⟩
  have hsz := HF.out.size
  have hsz1 : w.heap.size + 5 ≤ w5.heap.size := by omega
  refine wpIn_rangeFunc_ownH (gf := 102) (lb := #[.pointer (some ⟨w.heap.size + 1 + 1 + 1 + 1, 0, none⟩)]) rfl (by omega) rfl trivial (enters_of Tryd.func102 (by kernel_rfl) rfl)
    (all1_stops 2 (ChkS w.heap.size) (fun b => b ≤ w.heap.size) w5 (fun b h h' => by unfold ChkS at h'; omega) (fun b h => by unfold ChkS at h; omega) (w.heap.size + 1 + 1 + 1 + 1) w.heap.size 0 HF.out.ptr (.mk kd l r p) HF.out.tree hd xs hxs)
    (fun h k => h.trans k) (fun W l o o' _ ho hc _ => keepC_putObj ho hc) (Below.refl _ _) (fun _ => rfl) (ChkI w w5 xs) (fun c pre W => c = .ret ∧ ChkX w xs pre W) (chkI_own w w5 (by omega) xs) (chkX_own w w5 (by omega) xs)
    ⟨⟨by intro p x h; simp at h, HF.out.err, HF.out.at_, HF.out.tot⟩, KeepC.refl _ _, HF.out.below⟩
    (fun x a' W => ∃ Bx, w5.heap.size ≤ Bx ∧ W.heap[Bx]? = some (.cells #[.pointer (some ⟨x.1.b, x.1.o, none⟩), .int .i64 x.1.level, .int .i64 x.1.home] 160 (0, 0)) ∧ a' = { tmps := #[.agg #[.int .i64 kd, v1, v2, v3], .pointer (some ⟨w.heap.size, 0, none⟩), .pointer (some ⟨w.heap.size + 1, 0, none⟩), .pointer (some ⟨w.heap.size + 1 + 1, 0, none⟩), .pointer (some ⟨w.heap.size + 1 + 1 + 1, 0, none⟩), .pointer (some ⟨Bx, 0, none⟩), undef,
          .func (.func 102) #[] #[.pointer (some ⟨w.heap.size + 1 + 1 + 1 + 1, 0, none⟩)], .agg #[.pointer (some ⟨x.1.b, x.1.o, none⟩), .int .i64 x.1.level, .int .i64 x.1.home], undef, undef, undef, undef, undef, undef, undef, undef, undef, undef, undef, undef, undef, undef, undef, undef], defers := [] }) ?s9 ?s10 ?s11 ?s12 ?s13
  case s9 =>
    intro x a' _ W W' row ⟨Bx, h1, h2, h3⟩ hg hr
    refine ⟨Bx, h1, (hg.block Bx (lt_of_heap h2) (fun e => ?_)).trans h2, h3⟩
    obtain ⟨_, o, ho, hc⟩ := hr _ e.symm
    rw [h2] at ho; cases ho; cases hc
  case s10 =>
    intro l pre x W K hI hK
    simp only [Spot.enc]
    have hW5 : w5.heap.size ≤ W.heap.size := hI.2.1.1
    have HI := Lib.hid hI
    clear hI
    gi_wp2
    refine hK _ _ ((KeepsOthers.alloc _ _).from _) (KeepC.of_below ((Below.refl _ _).alloc (Nat.le_refl _) _)) ?_ ⟨W.heap.size, hW5, World.alloc_heap_new _ _, rfl⟩
    exact (chkI_own w w5 (by omega) xs).alloc _ HI.out
  case s11 =>
    rintro l pre x a' W hl ⟨r, hr⟩ ⟨⟨hgood, he, ha, ht⟩, hKC, hBl⟩ ⟨Bx, hBx, hbx, rfl⟩ _
    have hA := ((spots_at (.mk kd _ _ p) _ _ _ _ HF.out.tree x.1 (by rw [← hxs]; exact x.2)).keeps (ok := fun b => b ≤ w.heap.size) (hKC.keeps (fun b h h' => by unfold ChkS at h'; omega)))
    have hbd := spots_small w5 _ w.heap.size 0 1 0 hown x.1 (by rw [← hxs]; exact x.2)
    have hT := good_tot _ hgood
    have hLen : pre.length ≤ 65536 := by have h := len_le_tot (pre.map Subtype.val); rw [List.length_map] at h; omega
    have OWN := Lib.hid (own_any W.drew hA.drew hbd)
    have s0 : W.cell? ⟨Bx, 0, none⟩ = some (.pointer (some ⟨x.1.b, x.1.o, none⟩)) := by simp [World.cell?, hbx]
    have s1 : W.cell? ⟨Bx, 1, none⟩ = some (.int .i64 x.1.level) := by simp [World.cell?, hbx]
    have s2 : W.cell? ⟨Bx, 2, none⟩ = some (.int .i64 x.1.home) := by simp [World.cell?, hbx]
    have a0 := ha.cell
    have af := ha.frozen
    have t0 := ht.cell
    have tf := ht.frozen
    have e0 := he.cell
    have ef := he.frozen
    generalize hTT : tot (pre.map Subtype.val) = T at *
    generalize hON : ownN x.1.g = on at *
    have HI := Lib.hid hgood
    have HA := Lib.hid hA
    have HB := Lib.hid (And.intro hKC hBl)
    have HX := Lib.hid (And.intro he (And.intro ha ht))
    have HTT := Lib.hid hTT
    have HON := Lib.hid hON
    clear hgood hA hKC hBl he ha ht hTT hON hr
    have hs1 : IntKind.i64.wrap (1 + (on : Int)) = 1 + (on : Int) := IntWalk.i64_in _ (by omega)
    have hs2 : IntKind.i64.wrap ((T : Int) + (1 + (on : Int))) = (T : Int) + (1 + (on : Int)) := IntWalk.i64_in _ (by omega)
    have HS3 : Hid ((T : Int) + (1 + (on : Int)) = ((T + (1 + on) : Nat) : Int)) := Lib.hid (by omega)
    have HR := Lib.hid (fun T' => chkR_store (T' := T') HX.out.1 HX.out.2.1 HX.out.2.2 hbx (by omega) HA.out HB.out.2)
    gi_wp2
    gi_region_with ((try refine ⟨trivial, ?_⟩); gi_at_call 85; refine (CallsIn.inRound l (callsIn_wide.2 OWN.out)).mono ?_; rintro e w' ⟨rfl, rfl⟩)
    all_goals
      rw [HS3.out]
      have R1 := HR.out (T + (1 + on))
      generalize (W.setCell ⟨w.heap.size + 1 + 1 + 1, 0, none⟩ (.int .i64 ((T + (1 + on) : Nat) : Int))).drew = W1 at R1 ⊢
      have c0 := R1.tt.cell
      have c1 : W1.cell? ⟨Bx, 0, none⟩ = some (.pointer (some ⟨x.1.b, x.1.o, none⟩)) := by simp [World.cell?, R1.sp]
      have c2 : W1.cell? ⟨Bx, 1, none⟩ = some (.int .i64 x.1.level) := by simp [World.cell?, R1.sp]
      have c3 : W1.cell? ⟨Bx, 2, none⟩ = some (.int .i64 x.1.home) := by simp [World.cell?, R1.sp]
      have WR := Lib.hid (wrong_any x.1.level x.1.home ((T + (1 + on) : Nat) : Int) W1 R1.tree)
      have HR1 := Lib.hid R1
      generalize hEV : wrongE x.1.g x.1.level x.1.home ((T + (1 + on) : Nat) : Int) = ev at WR
      have HEV := Lib.hid hEV
      clear R1 HR s0 s1 s2 a0 af t0 tf e0 ef OWN hEV
      gi_wp2_with fail
      refine ⟨trivial, (CallsIn.inRound l (callsIn_wide.2 WR.out)).mono ?_⟩
      rintro e W2 ⟨rfl, hb2⟩
      have R2 := HR1.out.below hb2
      clear HR1 WR c0 c1 c2 c3 hb2
      have d0 := R2.at_.cell
      have df := R2.at_.frozen
      have d1 := R2.er.cell
      have d2 := R2.er.frozen
      have HR2 := Lib.hid R2
      clear R2
      have HTot : Hid (tot ((pre ++ [x]).map Subtype.val) = T + (1 + on)) := by
        simp only [Hid, List.map_append, List.map_cons, List.map_nil]
        rw [tot_snoc, HTT.out, HON.out]
      by_cases h0 : ev = 0
      · subst h0
        gi_wp2
        have hr2 := HR2.out
        have k2 : KeepC (ChkS w.heap.size) W2 (W2.setCell ⟨w.heap.size + 1 + 1, 0, none⟩ (.int .i64 ((pre.length : Int) + 1))) :=
          ⟨by simp [World.setCell], fun b _ hb ho _ => (Below.heap_setCell W2 _ _ b (by show b ≠ w.heap.size + 1 + 1; intro e; exact hb (.inr (.inl e)))).trans ho⟩
        refine ⟨((hr2.ko).trans (KeepsOthers.setCell _ _ _)).from _, hr2.kc.trans k2, ⟨⟨?_, hr2.er.other (by omega) _, ?_, ?_⟩, (HB.out.1.trans hr2.kc).trans k2, hr2.bl.setCell (by show w.heap.size ≤ w.heap.size + 1 + 1; omega) _⟩⟩
        · rw [List.map_append]
          refine goodS_snoc HI.out ?_
          have h1 := HTot.out
          rw [List.map_append] at h1
          rw [List.map_cons, List.map_nil] at h1
          rw [h1]; exact HEV.out
        · have h1 := hr2.at_.set (.int .i64 ((pre.length : Int) + 1))
          have e : ((pre ++ [x]).length : Int) = (pre.length : Int) + 1 := by simp
          rw [e]; exact h1
        · have h1 := hr2.tt.other (B' := w.heap.size + 1 + 1) (by omega) (.int .i64 ((pre.length : Int) + 1))
          rwa [← HTot.out] at h1
      · have h1 : (ev != 0) = true := bne_iff_ne.2 h0
        gi_wp2_with fail
        refine ⟨trivial, (CallsIn.inRound l (callsIn_wide.2 (wrap_any _ _ _))).mono ?_⟩
        rintro e W3 ⟨rfl, hW3⟩
        have hb3 : Below W2.heap.size W2 W3 := by rw [hW3]; exact (Below.refl _ _).alloc (Nat.le_refl _) _
        have R3 := HR2.out.below hb3
        have e1 := R3.er.cell
        have e2 := R3.er.frozen
        have f1 : W3.cell? ⟨W2.heap.size, 0, none⟩ = some (.int .i64 pre.length) := by rw [hW3]; exact World.cell?_alloc_mark W2 _ _ _ 0
        have f2 : W3.cell? ⟨W2.heap.size, 1, none⟩ = some (.iface 22 (.int .i64 ev)) := by rw [hW3]; exact World.cell?_alloc_mark W2 _ _ _ 1
        have hlt : w.heap.size + 1 < W2.heap.size := HR2.out.er.lt
        have HR3 := Lib.hid R3
        clear hW3 R3 hb3
        gi_wp2
        have k3 : ∀ {a v}, a.block ≠ w.heap.size + 1 → W3.cell? a = some v → (W3.setCell ⟨w.heap.size + 1, 0, none⟩ (.iface 87 (.pointer (some ⟨W2.heap.size, 0, none⟩)))).cell? a = some v := fun {a v} hne h => by
          rw [World.cell?_of_block (w := W3) (Below.heap_setCell W3 _ _ a.block hne)]; exact h
        refine ⟨((HR3.out.ko).trans (KeepsOthers.setCell _ _ _)).from _, rfl, ⟨pre.map Subtype.val, x.1, W2.heap.size, by simp, HI.out, ?_, by have := HR2.out.bl.size; omega, HR3.out.er.set _, ?_, ?_⟩, HR3.out.bl.setCell (by show w.heap.size ≤ w.heap.size + 1; omega) _⟩
        · have h1 := HTot.out
          rw [List.map_append, List.map_cons, List.map_nil] at h1
          rw [h1, HEV.out]; exact h0
        · rw [List.length_map]; exact k3 (by show W2.heap.size ≠ _; omega) f1
        · have h1 := HTot.out
          rw [List.map_append, List.map_cons, List.map_nil] at h1
          rw [h1, HEV.out]; exact k3 (by show W2.heap.size ≠ _; omega) f2
  case s12 =>
    rintro D ys W hD hys ⟨⟨hgood, he, ha, ht⟩, hKC, hBl⟩ hK
    have e1 := he.cell
    have e2 := he.frozen
    have HG := Lib.hid hgood
    have HE := Lib.hid he
    have HB := Lib.hid hBl
    have HK := Lib.hid hK
    clear hgood he ha ht hKC hBl hK
    gi_wp2
    have hD1 : (W.setCell ⟨w.heap.size + 1, 0, none⟩ .nilIface).heap[D]? = some (.deferred (some [])) := (Below.heap_setCell W _ _ D (by show D ≠ w.heap.size + 1; omega)).trans HK.out
    refine ⟨by simp, .inl ⟨_, _, rfl, run_takeDeferred hD1, ?_⟩⟩
    have hc := cell_putObj (o' := .deferred none) hD1 rfl (HE.out.set .nilIface).cell
    refine ⟨.nilIface, by simp [results, Tryd.results63, go_sem, hc], .nilIface, rfl, ?_, below_putObj (HB.out.setCell (by show w.heap.size ≤ w.heap.size + 1; omega) _) (by omega) _⟩
    have h1 := checkGo_good (ys.map Subtype.val) [] (by simpa using HG.out)
    have h2 : checkR (.mk kd l r p) = none := by
      unfold checkR
      rw [← spots_items w5 _ w.heap.size 0, ← hxs, ← hys]
      simpa [tot] using h1
    rw [h2]; rfl
  case s13 =>
    rintro D c pre W hD hpre ⟨rfl, ⟨q, x, bf, h1, h2, h3, h4, h5, h6, h7⟩, h8⟩ hK
    have hq : checkR (.mk kd l r p) = some ((q.length : Int), wrongE x.g x.level x.home (tot (q ++ [x]))) := by
      rw [h1] at hpre
      obtain ⟨rest, hr⟩ := hpre
      have h9 := checkGo_bad x _ q rest [] (by simpa using h2) rfl h3
      unfold checkR
      rw [← spots_items w5 _ w.heap.size 0, ← hxs, ← hr]
      simpa [tot] using h9
    have HQ := Lib.hid hq
    have H5 := Lib.hid h5
    have H6 := Lib.hid h6
    have H7 := Lib.hid h7
    have H8 := Lib.hid h8
    have HK := Lib.hid hK
    clear hq h1 h2 h3 h5 h6 h7 h8 hK hpre
    gi_wp2
    refine ⟨by simp, .inl ⟨_, _, rfl, run_takeDeferred HK.out, ?_⟩⟩
    have hc := cell_putObj (o' := .deferred none) HK.out rfl H5.out.cell
    refine ⟨.iface 87 (.pointer (some ⟨bf, 0, none⟩)), by simp [results, Tryd.results63, go_sem, hc], _, rfl, ?_, below_putObj H8.out (by omega) _⟩
    rw [HQ.out]
    exact ⟨bf, rfl, h4, cell_putObj HK.out rfl H6.out, cell_putObj HK.out rfl H7.out⟩
#print axioms check_any
end Go.Proofs.YtlffgepnhhnadaaDoor.Pl
