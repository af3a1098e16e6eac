/- Plain laws for StreamMends: the document's list of a tree's geometries may be cut; what a tree's size bounds. No conditions. The document's Check of a tree, walked. Condition: at most 1048576 geometries, rings and points. The document's Count, four and Frame, walked. Condition: at most 1048576 geometries, rings and points. -/
import Derived.Test.YtlffgepnhhnadaaGreatDoorMtD
import Derived.Test.YtlffgepnhhnadaaGreatDoorMtC
import Derived.Deep.RegionHeld3
import Derived.Laws.OwnMore
namespace Go.Proofs.YtlffgepnhhnadaaGreatDoor.Pl
section
open Go.RowKit

theorem wrong_over (g : G) (lv hm T : Int) (h : 65536 < T) : wrongE g lv hm T ≠ 0 := by
  unfold wrongE
  split
  · decide
  · split
    · decide
    · first | decide | (rw [if_pos h]; decide)
theorem wrong_good (g : G) (lv hm T : Int) (h : wrongE g lv hm T = 0) : ¬ 256 < lv ∧ shapedB g hm = true ∧ ¬ 65536 < T ∧ (ownPs g).all finP = true := by
  unfold wrongE at h
  split at h
  · cases h
  · rename_i h1
    split at h
    · cases h
    · rename_i h2
      split at h
      · cases h
      · rename_i h3
        refine ⟨h1, ?_, h3, ?_⟩
        · unfold shapedB
          cases ha : listsB g <;> cases hb : fitsB g.kind hm <;> simp [ha, hb] at h2 ⊢
        · cases hc : (g.line.all finP && g.rings.all fun r => r.all finP) with
          | false => rw [hc] at h; cases h
          | true =>
            simp only [Bool.and_eq_true] at hc
            unfold ownPs
            rw [List.all_append, hc.1, Bool.true_and, List.all_flatten]
            exact hc.2
theorem wrong_deepE (g : G) (lv hm T : Int) (h : 256 < lv) : wrongE g lv hm T = 151 := by unfold wrongE; rw [if_pos h]
theorem wrong_shapeE (g : G) (lv hm T : Int) (h : ¬ 256 < lv) (h2 : shapedB g hm = false) : wrongE g lv hm T = 150 := by
  unfold wrongE
  rw [if_neg h, if_pos]
  unfold shapedB at h2
  cases ha : listsB g <;> cases hb : fitsB g.kind hm <;> simp [ha, hb] at h2 ⊢
theorem shaped_both {g : G} {hm : Int} (h : shapedB g hm = true) : ¬ (listsB g = false ∨ fitsB g.kind hm = false) := by
  unfold shapedB at h
  simp only [Bool.and_eq_true] at h
  simp [h.1, h.2]
theorem wrong_manyE (g : G) (lv hm T : Int) (h : ¬ 256 < lv) (h2 : shapedB g hm = true) (h3 : 65536 < T) : wrongE g lv hm T = 152 := by
  unfold wrongE
  rw [if_neg h, if_neg (shaped_both h2), if_pos h3]
theorem wrong_lastE (g : G) (lv hm T : Int) (h : ¬ 256 < lv) (h2 : shapedB g hm = true) (h3 : ¬ 65536 < T) : wrongE g lv hm T = cond ((ownPs g).all finP) 0 155 := by
  unfold wrongE
  rw [if_neg h, if_neg (shaped_both h2), if_neg h3]
  congr 1
  unfold ownPs
  rw [List.all_append, List.all_flatten]

theorem checkGo_take : ∀ (xs : List It) (a t n : Nat), t ≤ 65536 → 65536 < t + n → checkGo (xs.take n) a t = checkGo xs a t
  | [], a, t, n, _, _ => by simp
  | x :: xs, a, t, 0, h1, h2 => by omega
  | x :: xs, a, t, n + 1, h1, h2 => by
    rw [List.take_succ_cons]
    simp only [checkGo]
    by_cases h : t + (1 + ownN x.g) ≤ 65536
    · rw [checkGo_take xs (a + 1) (t + (1 + ownN x.g)) n h (by omega)]
    · have hw := wrong_over x.g x.level x.home ((t + (1 + ownN x.g) : Nat) : Int) (by omega)
      rw [if_neg hw, if_neg hw]
theorem checkGo_none : ∀ (xs : List It) (a t : Nat), checkGo xs a t = none → ∀ x ∈ xs, ∃ T, wrongE x.g x.level x.home T = 0
  | [], _, _, _, x, hx => by cases hx
  | y :: xs, a, t, h, x, hx => by
    simp only [checkGo] at h
    by_cases hw : wrongE y.g y.level y.home ((t + (1 + ownN y.g) : Nat) : Int) = 0
    · rw [if_pos hw] at h
      rcases List.mem_cons.1 hx with rfl | hx
      · exact ⟨_, hw⟩
      · exact checkGo_none xs _ _ h x hx
    · rw [if_neg hw] at h; cases h
/-- geometries and points of the first n -/
def totI : List It → Nat
  | [] => 0
  | x :: xs => 1 + ownN x.g + totI xs
theorem totI_len : ∀ xs : List It, xs.length ≤ totI xs
  | [] => Nat.le_refl _
  | x :: xs => by have := totI_len xs; simp only [List.length_cons, totI]; omega
theorem totI_append : ∀ xs ys : List It, totI (xs ++ ys) = totI xs + totI ys
  | [], ys => by simp [totI]
  | x :: xs, ys => by simp only [List.cons_append, totI, totI_append xs ys]; omega

mutual
/-- geometries, rings and points -/
def sizeG : G → Nat
  | .mk _ l r p => 1 + l.length + (r.map fun x => 1 + x.length).sum + sizeGs p
def sizeGs : List G → Nat
  | [] => 0
  | g :: gs => sizeG g + sizeGs gs
end
theorem rings_sum : ∀ r : List (List Pt), (r.map List.length).sum ≤ (r.map fun x => 1 + x.length).sum ∧ r.length ≤ (r.map fun x => 1 + x.length).sum
  | [] => ⟨Nat.le_refl _, Nat.le_refl _⟩
  | x :: r => by have := rings_sum r; simp only [List.map_cons, List.sum_cons, List.length_cons]; omega
theorem rings_mem : ∀ (r : List (List Pt)) (x : List Pt), x ∈ r → x.length ≤ (r.map fun x => 1 + x.length).sum
  | y :: r, x, h => by
    simp only [List.map_cons, List.sum_cons]
    rcases List.mem_cons.1 h with rfl | h
    · omega
    · have := rings_mem r x h; omega
theorem sizeGs_len : ∀ p : List G, p.length ≤ sizeGs p
  | [] => Nat.le_refl _
  | .mk _ _ _ _ :: p => by have := sizeGs_len p; simp only [List.length_cons, sizeGs, sizeG]; omega
theorem own_size (g : G) : ownN g ≤ sizeG g := by
  obtain ⟨k, l, r, p⟩ := g
  have := rings_sum r
  simp only [ownN, G.line, G.rings, sizeG]; omega
mutual
theorem small_size : ∀ g : G, sizeG g ≤ 140737488355328 → SmallG g
  | .mk k l r p, h => by
    have h1 := own_size (.mk k l r p)
    simp only [SmallG]
    refine ⟨Nat.le_trans h1 h, smalls_size p ?_⟩
    simp only [sizeG] at h; omega
theorem smalls_size : ∀ p : List G, sizeGs p ≤ 140737488355328 → SmallGs p
  | [], _ => trivial
  | g :: p, h => by
    simp only [sizeGs] at h
    simp only [SmallGs]
    exact ⟨small_size g (by omega), smalls_size p (by omega)⟩
end
mutual
theorem depth_size : ∀ g : G, depth g ≤ sizeG g
  | .mk k l r p => by have := depths_size p; simp only [depth, sizeG]; omega
theorem depths_size : ∀ p : List G, depths p ≤ sizeGs p
  | [] => Nat.le_refl _
  | g :: p => by have := depth_size g; have := depths_size p; simp only [depths, sizeGs]; omega
end
mutual
theorem begun_size : ∀ g : G, begunG g ≤ sizeG g
  | .mk k l r p => by
    have := beguns_size p
    simp only [begunG, sizeG]
    split <;> omega
theorem beguns_size : ∀ p : List G, begunGs p ≤ sizeGs p
  | [] => Nat.le_refl _
  | g :: p => by have := begun_size g; have := beguns_size p; simp only [begunGs, sizeGs]; omega
end
theorem rings_enc : ∀ r : List (List Pt), (r.map fun x => 4 + 16 * x.length).sum ≤ 16 * (r.map fun x => 1 + x.length).sum
  | [] => Nat.le_refl _
  | x :: r => by have := rings_enc r; simp only [List.map_cons, List.sum_cons]; omega
mutual
theorem enc_size (os : List Bool) : ∀ (g : G) (n : Nat), (encG os g n).length ≤ 32 * sizeG g
  | .mk k l r p, n => by
    have h1 := encs_size os p (n + 1)
    have h2 := rings_enc r
    simp only [encG, sizeG, List.length_cons, List.length_append, encB_length]
    split
    · split
      · rw [encPs_length]; simp only [List.length_cons, List.length_nil]; omega
      · rw [encPs_length]; omega
    · split
      · rw [List.length_append, encB_length, encPs_length]; omega
      · split
        · rw [List.length_append, encB_length, encRs_length]; omega
        · rw [List.length_append, encB_length]; omega
theorem encs_size (os : List Bool) : ∀ (p : List G) (n : Nat), (encGs os p n).length ≤ 32 * sizeGs p
  | [], n => by simp [encGs, sizeGs]
  | g :: p, n => by
    have h1 := enc_size os g n
    have h2 := encs_size os p (n + begunG g)
    simp only [encGs, sizeGs, List.length_append]; omega
end
mutual
theorem items_size : ∀ (g : G) (lv hm : Int), ∀ x ∈ items g lv hm, ownN x.g ≤ sizeG g
  | .mk k l r p, lv, hm, x, hx => by
    simp only [items, List.mem_cons] at hx
    rcases hx with rfl | hx
    · exact own_size _
    · have := itemss_size p _ _ x hx; simp only [sizeG]; omega
theorem itemss_size : ∀ (p : List G) (lv hm : Int), ∀ x ∈ itemss p lv hm, ownN x.g ≤ sizeGs p
  | [], _, _, x, hx => by simp [itemss] at hx
  | g :: p, lv, hm, x, hx => by
    simp only [itemss, List.mem_append] at hx
    simp only [sizeGs]
    rcases hx with hx | hx
    · have := items_size g _ _ x hx; omega
    · have := itemss_size p _ _ x hx; omega
end
theorem listsB_kind {k : Int} {l : List Pt} {r : List (List Pt)} {p : List G} (h : listsB (.mk k l r p) = true) : 0 ≤ k ∧ k < 4294967296 := by
  apply Classical.byContradiction
  intro hn
  rw [lists_mk] at h
  unfold listsN at h
  rw [if_neg (by omega), if_neg (by omega), if_neg (by omega), if_neg (by omega)] at h
  cases h
mutual
theorem kind_size : ∀ (g : G) (lv hm : Int), (∀ x ∈ items g lv hm, listsB x.g = true) → sizeG g ≤ 1073741824 → KindG g
  | .mk k l r p, lv, hm, h, hs => by
    have h0 := listsB_kind (h ⟨lv, hm, .mk k l r p⟩ (by simp [items]))
    have h1 := rings_sum r
    have h2 := sizeGs_len p
    simp only [sizeG] at hs
    simp only [KindG]
    refine ⟨h0, by omega, by omega, by omega, fun x hx => ?_, kinds_size p (lv + 1) k (fun x hx => h x (by simp only [items, List.mem_cons]; exact .inr hx)) (by omega)⟩
    have := rings_mem r x hx; omega
theorem kinds_size : ∀ (p : List G) (lv hm : Int), (∀ x ∈ itemss p lv hm, listsB x.g = true) → sizeGs p ≤ 1073741824 → KindGs p
  | [], _, _, _, _ => trivial
  | g :: p, lv, hm, h, hs => by
    simp only [sizeGs] at hs
    simp only [KindGs]
    exact ⟨kind_size g lv hm (fun x hx => h x (by simp only [itemss, List.mem_append]; exact .inl hx)) (by omega), kinds_size p lv hm (fun x hx => h x (by simp only [itemss, List.mem_append]; exact .inr hx)) (by omega)⟩
end
theorem kind_checked (g : G) (h : checkR g = none) (hs : sizeG g ≤ 1073741824) : KindG g :=
  kind_size g 1 0 (fun x hx => by
    obtain ⟨T, hT⟩ := checkGo_none _ _ _ h x hx
    have := (wrong_good _ _ _ _ hT).2.1
    unfold shapedB at this
    simp only [Bool.and_eq_true] at this
    exact this.1) hs
end
section
open Go.RowKit

/-- the document's pair: number and place -/
def chkV : Option (Int × Int) → Value
  | none => .tuple #[.int .i64 0, .int .i64 (-1)]
  | some (a, c) => .tuple #[.int .i64 c, .int .i64 a]
def DChkPost (w : World) (r : Option (Int × Int)) (e : Ending) (w' : World) : Prop := e = .returned (chkV r) ∧ Below w.heap.size w w'
theorem chk_step {xs : List It} {k T : Nat} {x : It} (h : xs[k]? = some x) (hw : wrongE x.g x.level x.home ((T + (1 + ownN x.g) : Nat) : Int) = 0) : checkGo (xs.drop k) k T = checkGo (xs.drop (k + 1)) (k + 1) (T + (1 + ownN x.g)) := by
  obtain ⟨hl, rfl⟩ := List.getElem?_eq_some_iff.1 h
  rw [List.drop_eq_getElem_cons hl]
  simp only [checkGo]
  rw [if_pos hw]
theorem chk_stop {xs : List It} {k T : Nat} {x : It} {e : Int} (h : xs[k]? = some x) (hw : wrongE x.g x.level x.home ((T + (1 + ownN x.g) : Nat) : Int) = e) (he : e ≠ 0) : checkGo (xs.drop k) k T = some ((k : Int), e) := by
  obtain ⟨hl, rfl⟩ := List.getElem?_eq_some_iff.1 h
  rw [List.drop_eq_getElem_cons hl]
  simp only [checkGo]
  rw [if_neg (by rw [hw]; exact he), hw]
theorem own_form {w : World} {B : Nat} {e : TypeId} {k n : Nat} {v : Value} {xs : List Value} (h : w.ownsRow B e k v n xs) : ∃ A c, v = .slice A n c := by
  rcases h.2 with ⟨rfl, rfl⟩ | ⟨g, cap, cur, rfl, _⟩
  · exact ⟨_, _, rfl⟩
  · exact ⟨_, _, rfl⟩
theorem own_cells {w : World} {B : Nat} {e : TypeId} {k n : Nat} {v : Value} {xs : List Value} (h : w.ownsRow B e k v n xs) (hn : 0 < n) : ∃ g c, v = .slice (some ⟨g, 0, none⟩) n c ∧ B ≤ g ∧ g < w.heap.size ∧ ∀ j u, xs[j]? = some u → w.cell? ⟨g, j, none⟩ = some u := by
  have hh := h
  rcases h.2 with ⟨_, rfl⟩ | ⟨g, cap, cur, rfl, _⟩
  · omega
  · have hl := World.ownsRow.lt hh g rfl
    refine ⟨g, cap, rfl, hl.1, hl.2, fun j u hj => ?_⟩
    have := World.ownsRow.cells hh (g := g) rfl j u hj
    rwa [addn, Nat.zero_add] at this

theorem isG_ptok {ok : Nat → Prop} {w : World} {g : G} {cs : List Value} (h : IsG ok w g cs) : ∀ p ∈ ownPs g, PtOk p := by
  obtain ⟨k, l, r, p⟩ := g
  simp only [IsG] at h
  obtain ⟨_, _, _, _, hl, ⟨vs, _, hr⟩, _⟩ := h
  intro q hq
  simp only [ownPs, G.line, G.rings, List.mem_append, List.mem_flatten] at hq
  rcases hq with hq | ⟨x, hx, hq⟩
  · exact hl.1 q hq
  · obtain ⟨i, hi, rfl⟩ := List.mem_iff_getElem.1 hx
    obtain ⟨v, _, hv⟩ := hr.at i _ (List.getElem?_eq_getElem hi)
    exact hv.1 q hq
set_option maxRecDepth 100000 in
set_option maxHeartbeats 4000000 in
theorem dcheck_any {ok : Nat → Prop} {g : G} {cs : List Value} (w : World) (hg : IsG ok w g cs) (hs : sizeG g ≤ 1048576) :
    Calls Tryz.prog 11 #[.agg cs.toArray] w (DChkPost w (checkR g)) := by
  have hdp := depth_size g
  obtain ⟨i1, D1, m1, r1, D2, m2, r2, D3, m3, r3, rfl⟩ := geom_shape hg
  obtain ⟨w1, hw1⟩ : ∃ w1, w1 = w.alloc (.cells #[.int .i64 i1, .slice D1 m1 r1, .slice D2 m2 r2, .slice D3 m3 r3] 27) := ⟨_, rfl⟩
  have hb1 : Below w.heap.size w w1 := by subst hw1; exact (Below.refl _ w).alloc (Nat.le_refl _) _
  have hx1 : w1.heap[w.heap.size]? = some (.cells #[.int .i64 i1, .slice D1 m1 r1, .slice D2 m2 r2, .slice D3 m3 r3] 27 (0, 0)) := by subst hw1; exact World.alloc_heap_new _ _
  have b0 := cell_row (cs := [_, _, _, _]) (j := 0) hx1 rfl
  have b1 := cell_row (cs := [_, _, _, _]) (j := 1) hx1 rfl
  have b2 := cell_row (cs := [_, _, _, _]) (j := 2) hx1 rfl
  have b3 := cell_row (cs := [_, _, _, _]) (j := 3) hx1 rfl
  have hI : IsG (· < w1.heap.size) w1 g [.int .i64 i1, .slice D1 m1 r1, .slice D2 m2 r2, .slice D3 m3 r3] := (hg.keeps (below_keeps hb1 ok)).mono fun b hb _ => hb
  have HIT := Lib.hid (ditems_any 65538 (by decide) (by decide) (depth g) g w1.heap.size 1 0 (.slice none 0 0) [] _ w1 (Nat.le_refl _) hI (ItsOwn.nil _ _) (Nat.zero_le _) (by decide) (by omega) (Nat.le_refl _))
  obtain ⟨its, hits⟩ : ∃ its, its = (items g 1 0).take 65538 := ⟨_, rfl⟩
  rw [List.nil_append, ← hits] at HIT
  have HCK : Hid (checkGo its 0 0 = checkR g) := Lib.hid (by rw [hits, checkGo_take _ _ _ _ (by decide) (by decide)]; rfl)
  have HSZ : Hid (∀ x ∈ its, ownN x.g ≤ 1048576) := Lib.hid fun x hx => Nat.le_trans (items_size g 1 0 x (List.mem_of_mem_take (hits ▸ hx))) hs
  have hil : its.length ≤ 65538 := by rw [hits, List.length_take]; omega
  have HB1 := Lib.hid hb1
  obtain ⟨R, hR⟩ : ∃ R, checkR g = R := ⟨_, rfl⟩
  rw [hR] at HCK ⊢
  clear hits hI hx1 hb1 hg hs hdp hR
  go_enter Tryz.func11, Tryz.ntmps11
  go_wp2_with (first
    | (rw [← hw1]
       clear hw1
       go_at_call 21
       go_must (
        refine HIT.out.mono ?_
        rintro e w2 ⟨v, rfl, hgi⟩
        have HGI := Lib.hid (And.intro hgi.own (hgi.below (ItsOwn.nil _ _) (Nat.le_refl _)))
        clear hgi)))
  obtain ⟨vs, hown, his⟩ := HGI.out.1
  obtain ⟨VA, VC, rfl⟩ := own_form hown
  have HOW := Lib.hid (And.intro hown his)
  have HB2 : Hid (Below w.heap.size w w2) := Lib.hid (HB1.out.trans (HGI.out.2.mono HB1.out.size))
  clear hown his b0 b1 b2 b3 HIT HGI
  go_loopw [5, 6] (fun u i W => ∃ k T : Nat, k ≤ its.length ∧ T ≤ 65536 ∧ u = .int .i64 T ∧ i = .int .i64 k ∧ Hid (checkGo (its.drop k) k T = R) ∧ Hid (Below w2.heap.size w2 W)) (fun _ i _ => its.length - (intOf i).toNat)
  case atStart => exact ⟨0, 0, Nat.zero_le _, Nat.zero_le _, rfl, rfl, Lib.hid (by rw [List.drop_zero]; exact HCK.out), Lib.hid (Below.refl _ _)⟩
  case round =>
    obtain ⟨k, T, hk, hT, rfl, rfl, HC, HB⟩ := hrel
    by_cases hkl : k < its.length
    · obtain ⟨x, hx⟩ : ∃ x, its[k]? = some x := ⟨_, List.getElem?_eq_getElem hkl⟩
      obtain ⟨cx, hIx, hat⟩ := HOW.out.2.at k x hx
      obtain ⟨gb, gc, hge, hg1, hg2, hcell⟩ := own_cells HOW.out.1 (by omega)
      simp only [Value.slice.injEq] at hge
      obtain ⟨rfl, _, rfl⟩ := hge
      have hox : ownN x.g ≤ 1048576 := HSZ.out x (List.mem_of_getElem? hx)
      obtain ⟨lv, hm, gx⟩ := x
      obtain ⟨j1, F1, n1, s1, F2, n2, s2, F3, n3, s3, rfl⟩ := geom_shape hIx
      have hc : ∀ j u, [Value.int .i64 j1, .slice F1 n1 s1, .slice F2 n2 s2, .slice F3 n3 s3, .int .i64 lv, .int .i64 hm][j]? = some u → wr.cell? ⟨gb, k * 6 + j, none⟩ = some u := fun j u hj =>
        (HB.out.cell (p := ⟨gb, k * 6 + j, none⟩) hg2).trans (hcell _ _ (hat j u hj))
      have c0 := hc 0 _ rfl
      have c1 := hc 1 _ rfl
      have c2 := hc 2 _ rfl
      have c3 := hc 3 _ rfl
      have c4 := hc 4 _ rfl
      have c5 := hc 5 _ rfl
      rw [Nat.add_zero] at c0
      have hIr : IsG (· < w1.heap.size) wr gx [.int .i64 j1, .slice F1 n1 s1, .slice F2 n2 s2, .slice F3 n3 s3] := hIx.keeps (below_keeps HB.out _)
      have HOWN := Lib.hid (down_any wr hIr hox)
      have HX := Lib.hid hx
      have HCL := Lib.hid hc
      have HIR := Lib.hid hIr
      have hgr : gb < wr.heap.size := Nat.lt_of_lt_of_le hg2 HB.out.size
      obtain ⟨on, hon⟩ : ∃ on, ownN gx = on := ⟨_, rfl⟩
      have HON := Lib.hid hon
      rw [hon] at HOWN hox
      have hki : (k : Int) < (its.length : Int) := by omega
      have hs1 : IntKind.i64.wrap ((T : Int) + 1) = (T : Int) + 1 := IntWalk.i64_in _ (by omega)
      have hs2 : IntKind.i64.wrap ((T : Int) + 1 + (on : Int)) = (T : Int) + 1 + (on : Int) := IntWalk.i64_in _ (by omega)
      clear hc hcell hat hIx hIr hx hon
      have hpo : ∀ p ∈ ownPs gx, PtOk p := isG_ptok HIR.out
      have HPO := Lib.hid hpo
      clear hpo
      by_cases h256 : 256 < lv
      · have HE : Hid (R = some ((k : Int), 151)) := Lib.hid (by rw [← HC.out]; exact chk_stop HX.out (wrong_deepE _ _ _ _ h256) (by decide))
        go_wp2_with (first
          | (go_at_call 22
             go_must (
              refine HOWN.out.mono ?_
              rintro e w3 ⟨v3, rfl, hp3, hb3⟩
              obtain ⟨PA, PC, rfl⟩ := own_form hp3
              have c4' := (hb3.cell (p := ⟨gb, k * 6 + 4, none⟩) hgr).trans c4
              have HP3 := Lib.hid (And.intro hp3 hb3)
              clear hp3 hb3)))
        go_ret2
        exact ⟨by rw [HE.out]; rfl, (HB2.out.trans (HB.out.mono HB2.out.size)).trans (HP3.out.2.mono (Nat.le_trans HB2.out.size HB.out.size))⟩
      · go_upto_region 10 with (first
          | (go_at_call 22
             go_must (
              refine HOWN.out.mono ?_
              rintro e w3 ⟨v3, rfl, hp3, hb3⟩
              obtain ⟨PA, PC, rfl⟩ := own_form hp3
              have c4' := (hb3.cell (p := ⟨gb, k * 6 + 4, none⟩) hgr).trans c4
              have HP3 := Lib.hid (And.intro hp3 hb3)
              clear hp3 hb3)))
        have hcl3 : ∀ j u, [Value.int .i64 j1, .slice F1 n1 s1, .slice F2 n2 s2, .slice F3 n3 s3, .int .i64 lv, .int .i64 hm][j]? = some u → w3.cell? ⟨gb, k * 6 + j, none⟩ = some u := fun j u hj =>
          (HP3.out.2.cell (p := ⟨gb, k * 6 + j, none⟩) hgr).trans (HCL.out _ _ hj)
        have e0 := hcl3 0 _ rfl
        have e1 := hcl3 1 _ rfl
        have e2 := hcl3 2 _ rfl
        have e3 := hcl3 3 _ rfl
        have e4 := hcl3 4 _ rfl
        have e5 := hcl3 5 _ rfl
        rw [Nat.add_zero] at e0
        have HSH := Lib.hid (dshaped_any lv hm w3 (HIR.out.keeps (below_keeps HP3.out.2 _)))
        have HB3 : Hid (Below w.heap.size w w3) := Lib.hid ((HB2.out.trans (HB.out.mono HB2.out.size)).trans (HP3.out.2.mono (Nat.le_trans HB2.out.size HB.out.size)))
        clear hcl3 c0 c1 c2 c3 c4 c5 c4'
        cases hsh : shapedB gx hm with
        | false =>
          rw [hsh] at HSH
          have HE : Hid (R = some ((k : Int), 150)) := Lib.hid (by rw [← HC.out]; exact chk_stop HX.out (wrong_shapeE _ _ _ _ (Int.not_lt.2 h256) hsh) (by decide))
          go_wp2_with (first
            | (go_at_call 23
               go_must (
                refine HSH.out.mono ?_
                rintro e w4 ⟨rfl, hb4⟩
                have HB4 := Lib.hid hb4
                clear hb4)))
          go_ret2
          exact ⟨by rw [HE.out]; rfl, HB3.out.trans (HB4.out.mono HB3.out.size)⟩
        | true =>
          rw [hsh] at HSH
          by_cases hall : (65536 : Int) < (T : Int) + 1 + (on : Int)
          · have HE : Hid (R = some ((k : Int), 152)) := Lib.hid (by rw [← HC.out]; exact chk_stop HX.out (wrong_manyE _ _ _ _ (Int.not_lt.2 h256) hsh (by rw [HON.out]; omega)) (by decide))
            go_wp2_with (first
              | (go_at_call 23
                 go_must (
                  refine HSH.out.mono ?_
                  rintro e w4 ⟨rfl, hb4⟩
                  have HB4 := Lib.hid hb4
                  clear hb4)))
            go_ret2
            exact ⟨by rw [HE.out]; rfl, HB3.out.trans (HB4.out.mono HB3.out.size)⟩
          · have HW : Hid (wrongE gx lv hm ((T + (1 + ownN gx) : Nat) : Int) = cond ((ownPs gx).all finP) 0 155) := Lib.hid (wrong_lastE _ _ _ _ (Int.not_lt.2 h256) hsh (by rw [HON.out]; omega))
            have hpl := ownPs_length gx
            rw [HON.out] at hpl
            obtain ⟨ps, hps⟩ : ∃ ps, ownPs gx = ps := ⟨_, rfl⟩
            rw [hps] at HP3 HPO HW hpl
            have HPL := Lib.hid hpl
            clear hsh hpl hps
            go_wp2_with (first
              | (go_at_call 23
                 go_must (
                  refine HSH.out.mono ?_
                  rintro e w4 ⟨rfl, hb4⟩
                  have HB4 := Lib.hid hb4
                  clear hb4)))
            clear e0 e1 e2 e3 e4 e5
            go_loopw [8] (fun z W => ∃ j : Nat, j ≤ on ∧ z = .int .i64 j ∧ Hid ((ps.take j).all finP = true) ∧ W = w4) (fun z _ => on - (intOf z).toNat)
            case atStart => exact ⟨0, Nat.zero_le _, rfl, Lib.hid (by simp), rfl⟩
            case round =>
              obtain ⟨j, hj, rfl, HF, rfl⟩ := hrel
              by_cases hjl : j < on
              · obtain ⟨p, hp⟩ : ∃ p, ps[j]? = some p := ⟨_, List.getElem?_eq_getElem (by rw [HPL.out]; exact hjl)⟩
                obtain ⟨pb, pc, hpe, _, hpb, hpc⟩ := own_cells HP3.out.1 (by omega)
                simp only [Value.slice.injEq] at hpe
                obtain ⟨rfl, _, rfl⟩ := hpe
                have hpt := ptCells_at ps j p hp
                have y0 := (HB4.out.cell (p := ⟨pb, j * 2, none⟩) hpb).trans (hpc _ _ hpt.1)
                have y1 := (HB4.out.cell (p := ⟨pb, j * 2 + 1, none⟩) hpb).trans (hpc _ _ hpt.2)
                have hpp := HPO.out p (List.mem_of_getElem? hp)
                have H1 := Lib.hid (fun W => dfin_any p.1 W hpp.1)
                have H2 := Lib.hid (fun W => dfin_any p.2 W hpp.2)
                have HPK := Lib.hid hp
                have hji : (j : Int) < (on : Int) := by omega
                obtain ⟨p1, p2⟩ := p
                clear hpt hpp hpc hp
                cases hd1 : decide (cls p1 ≤ 2) with
                | false =>
                  rw [hd1] at H1
                  have HNO : Hid (ps.all finP = false) := Lib.hid (all_no HPK.out (by simp [finP, hd1]))
                  have HE : Hid (R = some ((k : Int), 155)) := Lib.hid (by rw [← HC.out]; exact chk_stop HX.out (by rw [HW.out, HNO.out]; rfl) (by decide))
                  go_wp2_with (first
                    | (go_at_call 24
                       go_must (
                        refine (H1.out _).mono ?_
                        rintro e w' ⟨rfl, rfl⟩)))
                  go_ret2
                  exact ⟨by rw [HE.out]; rfl, HB3.out.trans (HB4.out.mono HB3.out.size)⟩
                | true =>
                  rw [hd1] at H1
                  cases hd2 : decide (cls p2 ≤ 2) with
                  | false =>
                    rw [hd2] at H2
                    have HNO : Hid (ps.all finP = false) := Lib.hid (all_no HPK.out (by simp [finP, hd2]))
                    have HE : Hid (R = some ((k : Int), 155)) := Lib.hid (by rw [← HC.out]; exact chk_stop HX.out (by rw [HW.out, HNO.out]; rfl) (by decide))
                    go_wp2_with fail
                    refine (H1.out _).mono ?_
                    rintro e w' ⟨rfl, rfl⟩
                    go_wp2_with fail
                    refine (H2.out _).mono ?_
                    rintro e w' ⟨rfl, rfl⟩
                    go_wp2_with fail
                    go_ret2
                    exact ⟨by rw [HE.out]; rfl, HB3.out.trans (HB4.out.mono HB3.out.size)⟩
                  | true =>
                    rw [hd2] at H2
                    have HN : Hid ((ps.take (j + 1)).all finP = true) := Lib.hid (all_next HPK.out (by simp [finP, hd1, hd2]) HF.out)
                    go_wp2_with fail
                    refine (H1.out _).mono ?_
                    rintro e w' ⟨rfl, rfl⟩
                    go_wp2_with fail
                    refine (H2.out _).mono ?_
                    rintro e w' ⟨rfl, rfl⟩
                    go_wp2_with fail
                    go_roundw
                    · exact ⟨j + 1, hjl, by simp, HN, trivial⟩
                    · simp [intOf]; omega
              · have HA : Hid (ps.all finP = true) := Lib.hid (all_end (by rw [HPL.out]; exact hj) (by rw [HPL.out]; exact hjl) HF.out)
                go_wp2_with fail
                go_roundw
                · refine ⟨k + 1, T + (1 + on), hkl, by omega, by simp only [Value.int.injEq, true_and]; omega, by simp, Lib.hid ?_, Lib.hid ((HB.out.trans (HP3.out.2.mono HB.out.size)).trans (HB4.out.mono (Nat.le_trans HB.out.size HP3.out.2.size)))⟩
                  rw [← HC.out, chk_step HX.out (by rw [HW.out, HA.out]; rfl)]
                  simp only [HON.out]
                · simp [intOf]; omega
    · have hke : k = its.length := by omega
      subst hke
      have HF : Hid (R = none) := Lib.hid (by rw [← HC.out, List.drop_length]; rfl)
      go_wp2_with fail
      go_ret2
      exact ⟨by rw [HF.out]; rfl, HB2.out.trans (HB.out.mono HB2.out.size)⟩
end
section
open Go.RowKit

mutual
/-- how many geometries; how many points -/
def geoN : G → Nat
  | .mk _ _ _ p => 1 + geoNs p
def geoNs : List G → Nat
  | [] => 0
  | g :: gs => geoN g + geoNs gs
def ptsN : G → Nat
  | .mk k l r p => ownN (.mk k l r p) + ptsNs p
def ptsNs : List G → Nat
  | [] => 0
  | g :: gs => ptsN g + ptsNs gs
end
mutual
theorem cnt_size : ∀ g : G, geoN g + ptsN g ≤ sizeG g
  | .mk k l r p => by
    have h1 := cnts_size p
    have h2 := rings_sum r
    simp only [geoN, ptsN, sizeG, ownN, G.line, G.rings]
    omega
theorem cnts_size : ∀ p : List G, geoNs p + ptsNs p ≤ sizeGs p
  | [] => Nat.le_refl _
  | g :: p => by have h1 := cnt_size g; have h2 := cnts_size p; simp only [geoNs, ptsNs, sizeGs]; omega
end
theorem geoNs_take : ∀ {p : List G} {k : Nat} {x : G}, p[k]? = some x → geoNs (p.take (k + 1)) = geoNs (p.take k) + geoN x ∧ ptsNs (p.take (k + 1)) = ptsNs (p.take k) + ptsN x ∧ sizeG x ≤ sizeGs p
  | [], k, x, h => by simp at h
  | g :: p, 0, x, h => by simp at h; subst h; simp [geoNs, ptsNs, sizeGs]
  | g :: p, k + 1, x, h => by
    have := geoNs_take (p := p) (k := k) (x := x) (by simpa using h)
    simp only [List.take_succ_cons, geoNs, ptsNs, sizeGs]
    omega
theorem geoNs_le : ∀ (p : List G) (k : Nat), geoNs (p.take k) ≤ geoNs p ∧ ptsNs (p.take k) ≤ ptsNs p
  | [], k => by simp
  | g :: p, 0 => by simp [geoNs, ptsNs]
  | g :: p, k + 1 => by
    have := geoNs_le p k
    simp only [List.take_succ_cons, geoNs, ptsNs]
    omega

set_option maxRecDepth 100000 in
set_option maxHeartbeats 2000000 in
theorem dcount_any : ∀ (d : Nat) (g : G) (ok : Nat → Prop) (cs : List Value) (w : World), depth g ≤ d → IsG ok w g cs → sizeG g ≤ 1048576 →
    Calls Tryz.prog 12 #[.agg cs.toArray] w fun e w' => e = .returned (.tuple #[.int .i64 (geoN g), .int .i64 (ptsN g)]) ∧ Below w.heap.size w w' := by
  intro d
  induction d with
  | zero => intro g ok cs w h; cases g; simp [depth] at h
  | succ d ih =>
  intro g ok cs w hd hg hs
  have hII := hg
  obtain ⟨kd, ln, rg, pt⟩ := g
  have hdp : depths pt ≤ d := by simp only [depth] at hd; omega
  have hos := own_size (.mk kd ln rg pt)
  have hcs := cnt_size (.mk kd ln rg pt)
  have hsp : sizeGs pt ≤ 1048576 := by simp only [sizeG] at hs; omega
  have hgp : geoN (.mk kd ln rg pt) = 1 + geoNs pt ∧ ptsN (.mk kd ln rg pt) = ownN (.mk kd ln rg pt) + ptsNs pt := by simp only [geoN, ptsN]; exact ⟨trivial, trivial⟩
  simp only [IsG] at hg
  obtain ⟨v1, v2, v3, rfl, ⟨_, A1, m1, rfl, _⟩, ⟨vr, ⟨A2, m2, rfl, _⟩, _⟩, vp, ⟨A3, m3, rfl, _, hl3, hrow3⟩, hpt⟩ := hg
  obtain ⟨w1, hw1⟩ : ∃ w1, w1 = w.alloc (.cells #[.int .i64 kd, .slice A1 ln.length m1, .slice A2 rg.length m2, .slice A3 pt.length m3] 27) := ⟨_, rfl⟩
  have hb1 : Below w.heap.size w w1 := by subst hw1; exact (Below.refl _ w).alloc (Nat.le_refl _) _
  have hx1 : w1.heap[w.heap.size]? = some (.cells #[.int .i64 kd, .slice A1 ln.length m1, .slice A2 rg.length m2, .slice A3 pt.length m3] 27 (0, 0)) := by subst hw1; exact World.alloc_heap_new _ _
  have hlt1 := lt_of_heap hx1
  have HDN := Lib.hid (down_any w1 (hII.keeps (below_keeps hb1 ok)) (Nat.le_trans hos hs))
  have hbx : ∀ W : World, Below w1.heap.size w1 W → W.cell? ⟨w.heap.size, 0, none⟩ = some (.int .i64 kd) ∧ W.cell? ⟨w.heap.size, 1, none⟩ = some (.slice A1 ln.length m1) ∧ W.cell? ⟨w.heap.size, 2, none⟩ = some (.slice A2 rg.length m2) ∧ W.cell? ⟨w.heap.size, 3, none⟩ = some (.slice A3 pt.length m3) := fun W hW => by
    have k1 := (hW.block _ hlt1).trans hx1
    exact ⟨cell_row (cs := [_, _, _, _]) (j := 0) k1 rfl, cell_row (cs := [_, _, _, _]) (j := 1) k1 rfl, cell_row (cs := [_, _, _, _]) (j := 2) k1 rfl, cell_row (cs := [_, _, _, _]) (j := 3) k1 rfl⟩
  obtain ⟨b0, b1, b2, b3⟩ := hbx w1 (Below.refl _ _)
  have HBX := Lib.hid hbx
  have HB1 := Lib.hid hb1
  have HPT := Lib.hid hpt
  have HRW := Lib.hid hrow3
  have HIH := Lib.hid ih
  have HGP := Lib.hid hgp
  obtain ⟨on, hon⟩ : ∃ on, ownN (.mk kd ln rg pt) = on := ⟨_, rfl⟩
  rw [hon] at hos hgp HGP HDN
  rw [hgp.1, hgp.2] at hcs
  clear hb1 hx1 hbx hII hpt hrow3 ih hgp hon
  go_enter Tryz.func12, Tryz.ntmps12
  go_wp2_with (first
    | (rw [← hw1]
       clear hw1
       go_at_call 22
       go_must (
        refine HDN.out.mono ?_
        rintro e w2 ⟨v, rfl, hp2, hb2⟩
        obtain ⟨PA, PC, rfl⟩ := own_form hp2
        have HB2 := Lib.hid hb2
        clear hp2 hb2)))
  clear b0 b1 b2 b3 HDN
  go_loopw [4, 5, 6] (fun n p i W => ∃ k : Nat, k ≤ pt.length ∧ i = .int .i64 k ∧ n = .int .i64 ((1 + geoNs (pt.take k) : Nat) : Int) ∧ p = .int .i64 ((on + ptsNs (pt.take k) : Nat) : Int) ∧ Hid (Below w1.heap.size w1 W)) (fun _ _ i _ => pt.length - (intOf i).toNat)
  case atStart => exact ⟨0, Nat.zero_le _, rfl, by simp [geoNs], by simp [ptsNs], HB2⟩
  case round =>
    obtain ⟨k, hk, rfl, rfl, rfl, HB⟩ := hrel
    obtain ⟨c0, c1, c2, c3⟩ := HBX.out wr HB.out
    by_cases hkl : k < pt.length
    · obtain ⟨x, hx⟩ : ∃ x, pt[k]? = some x := ⟨_, List.getElem?_eq_getElem hkl⟩
      obtain ⟨cx, hI, hat⟩ := HPT.out.at k x hx
      have hkp : Keeps ok w wr := below_keeps (HB1.out.trans (HB.out.mono HB1.out.size)) ok
      obtain ⟨j1, F1, n1, s1, F2, n2, s2, F3, n3, s3, rfl⟩ := geom_shape hI
      obtain ⟨bp, op, rfl, hbp, hbl, hcell⟩ := (HRW.out.keeps hkp).at (by intro e; have := hat 0 _ rfl; rw [e] at this; simp at this)
      have d0 := hcell _ _ (hat 0 _ rfl)
      have d1 := hcell _ _ (hat 1 _ rfl)
      have d2 := hcell _ _ (hat 2 _ rfl)
      have d3 := hcell _ _ (hat 3 _ rfl)
      rw [Nat.add_zero] at d0
      rw [← Nat.add_assoc] at d1 d2 d3
      have hnx := geoNs_take hx
      have hle := geoNs_le pt (k + 1)
      rw [hnx.1, hnx.2.1] at hle
      have HX := Lib.hid (HIH.out x ok _ wr (Nat.le_trans (depths_at pt k x hx) hdp) (hI.keeps hkp) (by omega))
      have HNX := Lib.hid hnx
      obtain ⟨gn, hgn⟩ : ∃ gn, geoN x = gn := ⟨_, rfl⟩
      obtain ⟨pn, hpn⟩ : ∃ pn, ptsN x = pn := ⟨_, rfl⟩
      rw [hgn, hpn] at hle HX HNX
      obtain ⟨ga, hga⟩ : ∃ ga, geoNs (pt.take k) = ga := ⟨_, rfl⟩
      obtain ⟨pa, hpa⟩ : ∃ pa, ptsNs (pt.take k) = pa := ⟨_, rfl⟩
      rw [hga, hpa] at hle HNX ⊢
      have hki : (k : Int) < (pt.length : Int) := by omega
      have hs1 : IntKind.i64.wrap (((1 + ga : Nat) : Int) + (gn : Int)) = ((1 + ga : Nat) : Int) + (gn : Int) := IntWalk.i64_in _ (by omega)
      have hs2 : IntKind.i64.wrap (((on + pa : Nat) : Int) + (pn : Int)) = ((on + pa : Nat) : Int) + (pn : Int) := IntWalk.i64_in _ (by omega)
      clear hcell hat hI hx hnx hkp hgn hpn hga hpa
      go_wp2_with (first
        | (go_at_call 12
           go_must (
            refine HX.out.mono ?_
            rintro e w3 ⟨rfl, hb3⟩
            have HB3 := Lib.hid hb3
            clear hb3)))
      go_roundw
      · refine ⟨k + 1, hkl, by simp, ?_, ?_, Lib.hid (HB.out.trans (HB3.out.mono HB.out.size))⟩
        · rw [HNX.out.1]; simp only [Value.int.injEq, true_and]; omega
        · rw [HNX.out.2.1]; simp only [Value.int.injEq, true_and]; omega
      · simp [intOf]; omega
    · have hke : k = pt.length := by omega
      subst hke
      rw [List.take_length]
      go_wp2_with fail
      go_ret2
      exact ⟨by rw [HGP.out.1, HGP.out.2]; rfl, HB1.out.trans (HB.out.mono HB1.out.size)⟩
end
end Go.Proofs.YtlffgepnhhnadaaGreatDoor.Pl
