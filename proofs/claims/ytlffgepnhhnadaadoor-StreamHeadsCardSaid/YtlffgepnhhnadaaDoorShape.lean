/- The trees of the laws' shapes: they can be written and read. Plain Lean. -/
import Derived.Test.YtlffgepnhhnadaaDoorMade
namespace Go.Proofs.YtlffgepnhhnadaaDoor.Pl
open Go.RowKit

mutual
/-- the geometries and points of a tree -/
def weightG : G → Nat
  | .mk _ l r p => 1 + l.length + (r.map List.length).sum + weightGs p
def weightGs : List G → Nat
  | [] => 0
  | g :: gs => weightG g + weightGs gs
end
mutual
theorem begun_le : ∀ (g : G), begunG g ≤ weightG g
  | .mk k l r p => by
    have := begun_les p
    simp only [begunG, weightG]
    split <;> omega
theorem begun_les : ∀ (p : List G), begunGs p ≤ weightGs p
  | [] => by simp [begunGs, weightGs]
  | g :: p => by
    have := begun_le g
    have := begun_les p
    simp only [begunGs, weightGs]; omega
end
mutual
theorem depth_le : ∀ (g : G), depth g ≤ weightG g
  | .mk k l r p => by
    have := depth_les p
    simp only [depth, weightG]
    omega
theorem depth_les : ∀ (p : List G), depths p ≤ weightGs p
  | [] => by simp [depths, weightGs]
  | g :: p => by
    have := depth_le g
    have := depth_les p
    simp only [depths, weightGs]; omega
end
mutual
theorem small_of : ∀ (g : G), weightG g ≤ 65536 → SmallG g
  | .mk k l r p, h => by
    simp only [weightG] at h
    simp only [SmallG]
    exact ⟨by simp only [ownN, G.line, G.rings]; omega, small_ofs p (by omega)⟩
theorem small_ofs : ∀ (p : List G), weightGs p ≤ 65536 → SmallGs p
  | [], _ => by simp [SmallGs]
  | g :: p, h => by
    simp only [weightGs] at h
    simp only [SmallGs]
    exact ⟨small_of g (by omega), small_ofs p (by omega)⟩
end
/-- one geometry is as it may be -/
theorem wrong_none {level home : Int} {k : Int} {l : List Pt} {r : List (List Pt)} {p : List G} {t : Nat} (h : WellG 256 level home (.mk k l r p)) (ht : t ≤ 65536) : wrongE (.mk k l r p) level home t = 0 := by
  simp only [WellG] at h
  obtain ⟨h1, h2, h3⟩ := h
  have hf : fitsB k home = true := by
    simp only [memberB, Bool.or_eq_true, decide_eq_true_eq] at h2
    unfold fitsB
    split
    · simp; omega
    · rfl
  have hl : listsB (.mk k l r p) = true := by
    show listsN k l.length r.length p.length (r.all fun r => r.length != 0) = true
    unfold listsN
    rcases h3 with ⟨rfl, rfl, rfl, h, _⟩ | ⟨rfl, rfl, rfl, h, _⟩ | ⟨rfl, rfl, rfl, _, h⟩ | ⟨h4, h7, rfl, rfl, _, _⟩
    · simp [h]
    · simp
    · rw [if_pos rfl]
      have h5 : (r.all fun r => r.length != 0) = true := by
        rw [List.all_eq_true]
        intro x hx
        have := List.length_pos_iff.2 (h x hx).1
        rw [bne_iff_ne]; omega
      rw [h5]; rfl
    · rw [if_neg (by omega), if_neg (by omega), if_neg (by omega), if_pos (by omega)]; rfl
  have hfin : (l.all finP && r.all (fun r => r.all finP)) = true := by
    rw [Bool.and_eq_true, List.all_eq_true, List.all_eq_true]
    rcases h3 with ⟨_, rfl, _, _, h⟩ | ⟨_, rfl, _, _, h⟩ | ⟨_, rfl, _, _, h⟩ | ⟨_, _, rfl, rfl, _, _⟩
    · exact ⟨fun x hx => (h x hx).2, by simp⟩
    · exact ⟨fun x hx => (h x hx).2, by simp⟩
    · exact ⟨by simp, fun x hx => by rw [List.all_eq_true]; exact fun y hy => ((h x hx).2.2 y hy).2⟩
    · exact ⟨by simp, by simp⟩
  unfold wrongE
  rw [if_neg (by omega), if_neg (by rw [hl]; simp [G.kind, hf]), if_neg (by omega)]
  simp only [G.line, G.rings]
  rw [hfin]; rfl
theorem checkGo_append : ∀ (xs ys : List It) (a t : Nat), checkGo xs a t = none → checkGo (xs ++ ys) a t = checkGo ys (a + xs.length) (t + (xs.map fun x => 1 + ownN x.g).sum)
  | [], ys, a, t, _ => by simp
  | x :: xs, ys, a, t, h => by
    simp only [checkGo] at h
    split at h
    · rename_i h0
      simp only [List.cons_append, checkGo]
      rw [if_pos h0, checkGo_append xs ys _ _ h]
      simp only [List.length_cons, List.map_cons, List.sum_cons]
      congr 1 <;> omega
    · cases h
mutual
theorem check_well : ∀ (g : G) (level home : Int) (a t : Nat), WellG 256 level home g → t + weightG g ≤ 65536 → checkGo (items g level home) a t = none ∧ ((items g level home).map fun x => 1 + ownN x.g).sum = weightG g
  | .mk k l r p, level, home, a, t, h, hw => by
    have h0 := h
    simp only [WellG] at h
    simp only [weightG] at hw ⊢
    simp only [items, checkGo, List.map_cons, List.sum_cons]
    have ho : 1 + ownN (.mk k l r p) = 1 + l.length + (r.map List.length).sum := by simp only [ownN, G.line, G.rings]; omega
    rw [ho, if_pos (wrong_none h0 (by omega))]
    have hp : WellGs 256 (level + 1) k p := by
      rcases h.2.2 with ⟨_, _, rfl, _⟩ | ⟨_, _, rfl, _⟩ | ⟨_, _, rfl, _⟩ | ⟨_, _, _, _, _, h⟩
      · simp [WellGs]
      · simp [WellGs]
      · simp [WellGs]
      · exact h
    obtain ⟨q1, q2⟩ := check_wells p (level + 1) k (a + 1) (t + (1 + l.length + (r.map List.length).sum)) hp (by omega)
    exact ⟨q1, by rw [q2]⟩
theorem check_wells : ∀ (p : List G) (level home : Int) (a t : Nat), WellGs 256 level home p → t + weightGs p ≤ 65536 → checkGo (itemss p level home) a t = none ∧ ((itemss p level home).map fun x => 1 + ownN x.g).sum = weightGs p
  | [], level, home, a, t, _, _ => by simp [itemss, checkGo, weightGs]
  | g :: p, level, home, a, t, h, hw => by
    simp only [WellGs] at h
    simp only [weightGs] at hw ⊢
    obtain ⟨q1, q2⟩ := check_well g level home a t h.1 (by omega)
    obtain ⟨q3, q4⟩ := check_wells p level home (a + (items g level home).length) (t + weightG g) h.2 (by omega)
    simp only [itemss, List.map_append, List.sum_append]
    rw [checkGo_append _ _ _ _ q1, q2, q4]
    exact ⟨q3, rfl⟩
end
theorem check_none {g : G} (h : WellG 256 1 0 g) (hw : weightG g ≤ 65536) : checkR g = none := (check_well g 1 0 0 0 h (by omega)).1

/-! the shapes -/
theorem Shp.pt_ok {s : Shp} (h : s.ok) : PtOk s.pt ∧ finP s.pt = true := by
  refine ⟨⟨finB_lt h.1, finB_lt h.2⟩, ?_⟩
  simp only [finP, Shp.pt, Bool.and_eq_true]
  exact ⟨decide_eq_true finB_fin, decide_eq_true finB_fin⟩
theorem well_point {s : Shp} (h : s.ok) (level home : Int) (hl : level ≤ 256) (hm : memberB home 1 = true) : WellG 256 level home s.point := by
  simp only [Shp.point, WellG]
  exact ⟨hl, hm, .inl ⟨by trivial, by trivial, by trivial, by simp, by simpa using Shp.pt_ok h⟩⟩
theorem well_rep {s : Shp} (h : s.ok) (level : Int) (hl : level ≤ 256) : ∀ n, WellGs 256 level 7 (List.replicate n s.point)
  | 0 => by simp [WellGs]
  | n + 1 => by simp only [List.replicate_succ, WellGs]; exact ⟨well_point h level 7 hl rfl, well_rep h level hl n⟩
theorem pairs_fin {s : Shp} (h : s.ok) : ∀ n, ∀ q ∈ pairs s.pt n, PtOk q ∧ finP q = true
  | 0 => by simp [pairs]
  | n + 1 => by
    intro q hq
    simp only [pairs, List.mem_append, List.mem_cons, List.not_mem_nil, or_false] at hq
    rcases hq with hq | rfl | rfl
    · exact pairs_fin h n q hq
    · exact Shp.pt_ok h
    · refine ⟨⟨finB_lt h.2, finB_lt h.1⟩, ?_⟩
      simp only [finP, Shp.pt, Bool.and_eq_true]
      exact ⟨decide_eq_true finB_fin, decide_eq_true finB_fin⟩
theorem well_nest {s : Shp} (h : s.ok) (n : Nat) (hn : n < 4) : ∀ (d : Nat) (level home : Int), level + d + 1 ≤ 256 → memberB home 7 = true → WellG 256 level home (nest d (.mk 7 [] [] (List.replicate n s.point)))
  | 0, level, home, hl, hm => by
    simp only [nest, WellG]
    exact ⟨by omega, hm, .inr (.inr (.inr ⟨by omega, by omega, by trivial, by trivial, by simp; omega, well_rep h _ (by omega) n⟩))⟩
  | d + 1, level, home, hl, hm => by
    simp only [nest, WellG, WellGs]
    exact ⟨by omega, hm, .inr (.inr (.inr ⟨by omega, by omega, by trivial, by trivial, by simp, well_nest h n hn d (level + 1) 7 (by omega) rfl, trivial⟩))⟩
theorem made_well {s : Shp} (h : s.ok) : WellG 256 1 0 s.made := by
  unfold Shp.made
  split
  · exact well_point h 1 0 (by omega) rfl
  split
  · simp only [WellG]
    exact ⟨by omega, rfl, .inl ⟨by trivial, by trivial, by trivial, by simp, by simp⟩⟩
  split
  · simp only [WellG]
    exact ⟨by omega, rfl, .inr (.inl ⟨by trivial, by trivial, by trivial, by rw [pairs_length]; omega, pairs_fin h _⟩)⟩
  · exact well_nest h _ (by omega) _ 1 0 (by omega) rfl
theorem weight_rep (s : Shp) : ∀ n, weightGs (List.replicate n s.point) = 2 * n
  | 0 => by simp [weightGs]
  | n + 1 => by
    have h := weight_rep s n
    rw [List.replicate_succ]
    simp only [weightGs, h]
    simp only [Shp.point, weightG, weightGs, List.length_cons, List.length_nil, List.map_nil, List.sum_nil]; omega
theorem weight_nest (g : G) : ∀ d, weightG (nest d g) = d + weightG g
  | 0 => by simp [nest]
  | d + 1 => by simp only [nest, weightG, weightGs, weight_nest g d]; simp; omega
theorem made_weight (s : Shp) : weightG s.made ≤ 100 := by
  unfold Shp.made
  split
  · simp [Shp.point, weightG, weightGs]
  split
  · simp [weightG, weightGs]
  split
  · simp only [weightG, weightGs, pairs_length]; simp; omega
  · rw [weight_nest]; simp only [weightG, weight_rep]; simp; omega
theorem rings_le : ∀ (r : List (List Pt)), (∀ x ∈ r, x ≠ []) → (r.map fun x => 4 + 16 * x.length).sum ≤ 20 * (r.map List.length).sum
  | [], _ => by simp
  | x :: r, h => by
    have h1 := rings_le r (fun y hy => h y (by simp [hy]))
    have h2 := List.length_pos_iff.2 (h x (by simp))
    simp only [List.map_cons, List.sum_cons]; omega
mutual
/-- a tree's bytes, by its weight -/
theorem enc_le (os : List Bool) (deep : Int) : ∀ (g : G) (level home : Int) (n : Nat), WellG deep level home g → (encG os g n).length ≤ 40 * weightG g
  | .mk k l r p, level, home, n, hw => by
    simp only [WellG] at hw
    rw [encG_len]
    unfold encBody
    simp only [weightG]
    rcases hw.2.2 with ⟨rfl, rfl, rfl, _, _⟩ | ⟨rfl, rfl, rfl, _, _⟩ | ⟨rfl, rfl, rfl, _, h⟩ | ⟨h4, h7, rfl, rfl, _, h⟩
    · rw [if_pos rfl, encPs_length]
      split
      · simp only [List.length_cons, List.length_nil]; omega
      · omega
    · rw [if_neg (by decide), if_pos rfl]
      simp only [List.length_append, encB_length, encPs_length]; omega
    · rw [if_neg (by decide), if_neg (by decide), if_pos rfl, List.length_append, encB_length, encRs_length]
      have := rings_le r (fun x hx => (h x hx).1)
      omega
    · rw [if_neg (by omega), if_neg (by omega), if_neg (by omega), List.length_append, encB_length]
      have := enc_les os deep p (level + 1) k (n + 1) h
      omega
theorem enc_les (os : List Bool) (deep : Int) : ∀ (p : List G) (level home : Int) (n : Nat), WellGs deep level home p → (encGs os p n).length ≤ 40 * weightGs p
  | [], level, home, n, _ => by simp [encGs]
  | g :: p, level, home, n, hw => by
    simp only [WellGs] at hw
    have h1 := enc_le os deep g level home n hw.1
    have h2 := enc_les os deep p level home (n + begunG g) hw.2
    simp only [encGs, weightGs, List.length_append]; omega
end
theorem made_enc {s : Shp} (h : s.ok) (lt : Bool) : (encG [lt] s.made 0).length ≤ 4000 := by
  have := enc_le [lt] 256 s.made 1 0 0 (made_well h)
  have := made_weight s
  omega
theorem made_check {s : Shp} (h : s.ok) : checkR s.made = none := check_none (made_well h) (by have := made_weight s; omega)
/-- a shape's record -/
def Shp.bytes (s : Shp) : List UInt8 := frameB (encG [s.lt] s.made 0)
theorem rec_len {s : Shp} (h : s.ok) : 21 ≤ s.bytes.length ∧ s.bytes.length ≤ 4012 := by
  have := made_enc h s.lt
  have := encG_least [s.lt] s.made 0
  have := frameB_length (encG [s.lt] s.made 0)
  unfold Shp.bytes; omega
end Go.Proofs.YtlffgepnhhnadaaDoor.Pl
