/- What the printer writes, the reader reads: plain Lean. -/
import Derived.Test.YtlffgepnhhnadaaDoorCrc
namespace Go.Proofs.YtlffgepnhhnadaaDoor.Pl
open Go.RowKit

/-- bytes that stand at a place -/
def Seg (l : List UInt8) (a : Nat) (s : List UInt8) : Prop := ∃ post, l.drop a = s ++ post
theorem Seg.left {l s t : List UInt8} {a : Nat} (h : Seg l a (s ++ t)) : Seg l a s := by obtain ⟨p, h⟩ := h; exact ⟨t ++ p, by rw [h, List.append_assoc]⟩
theorem Seg.right {l s t : List UInt8} {a : Nat} (h : Seg l a (s ++ t)) : Seg l (a + s.length) t := by
  obtain ⟨p, h⟩ := h
  exact ⟨p, by rw [← List.drop_drop, h, List.append_assoc, List.drop_left]⟩
theorem Seg.len {l s : List UInt8} {a : Nat} (h : Seg l a s) : s.length ≤ l.length - a := by
  obtain ⟨p, h⟩ := h
  have := congrArg List.length h
  simp at this; omega
theorem Seg.all (l m : List UInt8) : Seg (l ++ m) 0 l := ⟨m, rfl⟩

theorem encB_big (n v : Nat) : encB (n + 1) v false = encB n (v / 256) false ++ [UInt8.ofNat v] := by
  unfold encB
  rw [List.range_succ, List.map_append]
  simp only [Bool.false_eq_true, if_false]
  congr 1
  · refine List.map_congr_left fun i hi => ?_
    have hi := List.mem_range.1 hi
    rw [Nat.div_div_eq_div_mul, show (256 : Nat) = 2 ^ 8 from rfl, ← Nat.pow_add, show 8 + 8 * (n - 1 - i) = 8 * (n + 1 - 1 - i) by omega]
  · simp
theorem encB_little (n v : Nat) : encB (n + 1) v true = UInt8.ofNat v :: encB n (v / 256) true := by
  unfold encB
  rw [List.range_succ_eq_map, List.map_cons, List.map_map]
  simp only [if_true]
  congr 1
  · simp
  · refine List.map_congr_left fun i _ => ?_
    show UInt8.ofNat (v / 2 ^ (8 * (i + 1))) = _
    rw [Nat.div_div_eq_div_mul, show (256 : Nat) = 2 ^ 8 from rfl, ← Nat.pow_add, show 8 + 8 * i = 8 * (i + 1) by omega]
theorem u8_ofNat (v : Nat) : (UInt8.ofNat v).toNat = v % 256 := by simp
theorem dec_enc (lt : Bool) : ∀ (n v : Nat), v < 256 ^ n → decB (encB n v lt) lt = v
  | 0, v, h => by
    have : v = 0 := by simpa using h
    subst this; cases lt <;> rfl
  | n + 1, v, h => by
    have hv : v / 256 < 256 ^ n := by rw [Nat.pow_succ] at h; omega
    have ih := dec_enc lt n (v / 256) hv
    unfold decB at ih ⊢
    cases lt with
    | true =>
      simp only [if_true] at ih ⊢
      rw [encB_little, List.foldr_cons, ih, u8_ofNat]; omega
    | false =>
      simp only [Bool.false_eq_true, if_false] at ih ⊢
      rw [encB_big, List.foldl_append, ih, List.foldl_cons, List.foldl_nil, u8_ofNat]; omega
theorem Seg.wd {l : List UInt8} {a n v : Nat} {lt : Bool} (h : Seg l a (encB n v lt)) (hv : v < 256 ^ n) : wd l a n lt = v := by
  obtain ⟨p, h⟩ := h
  unfold Pl.wd
  rw [h, List.take_left' (encB_length _ _ _)]
  exact dec_enc lt n v hv

theorem finP_num {l : List UInt8} {a v : Nat} {lt : Bool} (h : Seg l a (encB 8 v lt)) (hv : v < 18446744073709551616) (hf : cls v ≤ 2) : numR l lt a = .ok v := by
  unfold numR
  rw [h.wd (by simpa using hv), if_neg (by omega)]
theorem pt_back {l : List UInt8} {a : Nat} {p : Pt} {lt : Bool} (h : Seg l a (encP lt p)) (hp : PtOk p) (hf : finP p = true) : ptR l lt a = .ok p := by
  simp only [finP, Bool.and_eq_true, decide_eq_true_eq] at hf
  have h1 := finP_num h.left hp.1 hf.1
  have h2 := finP_num h.right hp.2 hf.2
  rw [encB_length] at h2
  unfold ptR
  rw [h1, h2]
theorem pts_back {l : List UInt8} {lt : Bool} : ∀ (ps : List Pt) (a : Nat), Seg l a (encPs lt ps) → (∀ p ∈ ps, PtOk p ∧ finP p = true) → ptsR l lt ps.length a = .ok (ps, a + 16 * ps.length)
  | [], a, _, _ => rfl
  | p :: ps, a, h, hp => by
    have h : Seg l a (encP lt p ++ encPs lt ps) := by simpa [encPs] using h
    have h1 := pt_back h.left (hp p (by simp)).1 (hp p (by simp)).2
    have h2 := h.right
    rw [encP_length] at h2
    have h3 := pts_back ps (a + 16) h2 (fun q hq => hp q (by simp [hq]))
    unfold ptsR at h3 ⊢
    simp only [List.length_cons, manyR, h1, show (Except.ok p : Except PErr Pt).map (fun p => (p, a + 16)) = .ok (p, a + 16) from rfl, h3]
    rw [show a + 16 + 16 * ps.length = a + 16 * (ps.length + 1) by omega]
theorem place_back {l : List UInt8} {lt : Bool} {ps : List Pt} {a : Nat} (h : Seg l a (encPs lt (if ps = [] then [nowherePt] else ps))) (h1 : ps.length ≤ 1) (hp : ∀ p ∈ ps, PtOk p ∧ finP p = true) : placeR l lt a = .ok (ps, a + 16) := by
  obtain ⟨q, hq⟩ : ∃ q, (if ps = [] then [nowherePt] else ps) = [q] := by
    match ps, h1 with
    | [], _ => exact ⟨_, rfl⟩
    | [q], _ => exact ⟨q, rfl⟩
  have h : Seg l a (encB 8 q.1 lt ++ encB 8 q.2 lt) := by rw [hq] at h; simpa [encPs, encP] using h
  have hlen := h.len
  have e1 := h.left
  have e2 := h.right
  simp only [List.length_append, encB_length] at hlen e2
  have hok : PtOk q := by
    match ps, h1 with
    | [], _ => simp at hq; subst hq; exact ⟨by decide, by decide⟩
    | [x], _ => simp at hq; subst hq; exact (hp x (by simp)).1
  have w1 := e1.wd (by simpa using hok.1)
  have w2 := e2.wd (by simpa using hok.2)
  unfold placeR
  rw [w1, w2, if_neg (by omega), if_neg (by omega)]
  match ps, h1 with
  | [], _ =>
    simp at hq; subst hq
    rw [if_pos (by decide)]
  | [x], _ =>
    simp at hq; subst hq
    have hf := (hp x (by simp)).2
    simp only [finP, Bool.and_eq_true, decide_eq_true_eq] at hf
    rw [if_neg (by omega), if_neg (by omega), if_neg (by omega)]
theorem count_back {l : List UInt8} {lt : Bool} {least n a : Nat} {s : List UInt8} (h : Seg l a (encB 4 n lt ++ s)) (hn : n < 4294967296) (hs : n * least ≤ s.length) : countR l lt least a = .ok (n, a + 4) := by
  have h1 := h.left.wd (by simpa using hn)
  have h2 := h.len
  have h3 := h.right.len
  simp only [List.length_append, encB_length] at h2 h3
  unfold countR
  rw [h1, if_neg (by omega), if_neg (by omega)]
theorem ring_back {l : List UInt8} {lt : Bool} {r : List Pt} {a : Nat} (h : Seg l a (encR lt r)) (h0 : r ≠ []) (hn : r.length < 4294967296) (hp : ∀ p ∈ r, PtOk p ∧ finP p = true) : ringR l lt a = .ok (r, a + (encR lt r).length) := by
  unfold encR at h
  have h1 := h.left.wd (by simpa using hn)
  have h2 := h.len
  have h3 := h.right.len
  have h4 := h.right
  simp only [List.length_append, encB_length, encPs_length] at h2 h3 h4
  have := List.length_pos_iff.2 h0
  unfold ringR
  rw [h1, if_neg (by omega), if_neg (by omega), if_neg (by omega), pts_back r _ h4 hp]
  simp only [encR, List.length_append, encB_length, encPs_length, Nat.add_assoc]
theorem rings_back {l : List UInt8} {lt : Bool} : ∀ (rs : List (List Pt)) (a : Nat), Seg l a (rs.flatMap (encR lt)) → (∀ r ∈ rs, r ≠ [] ∧ r.length < 4294967296 ∧ ∀ p ∈ r, PtOk p ∧ finP p = true) → manyR (ringR l lt) rs.length a = .ok (rs, a + (rs.flatMap (encR lt)).length)
  | [], a, _, _ => rfl
  | r :: rs, a, h, hp => by
    rw [List.flatMap_cons] at h
    obtain ⟨p0, p1, p2⟩ := hp r (by simp)
    have h1 := ring_back h.left p0 p1 p2
    have h3 := rings_back rs _ h.right (fun q hq => hp q (by simp [hq]))
    simp only [List.length_cons, manyR, h1, h3, List.flatMap_cons, List.length_append, Nat.add_assoc]

mutual
/-- a tree that can be written and read: at a level, as a part of a kind -/
def WellG (deep : Int) (level home : Int) : G → Prop
  | .mk k l r p => level ≤ deep ∧ memberB home k = true ∧ 
    ((k = 1 ∧ r = [] ∧ p = [] ∧ l.length ≤ 1 ∧ ∀ x ∈ l, PtOk x ∧ finP x = true) ∨
     (k = 2 ∧ r = [] ∧ p = [] ∧ l.length < 4294967296 ∧ ∀ x ∈ l, PtOk x ∧ finP x = true) ∨
     (k = 3 ∧ l = [] ∧ p = [] ∧ r.length < 4294967296 ∧ ∀ x ∈ r, x ≠ [] ∧ x.length < 4294967296 ∧ ∀ y ∈ x, PtOk y ∧ finP y = true) ∨
     (4 ≤ k ∧ k ≤ 7 ∧ l = [] ∧ r = [] ∧ p.length < 4294967296 ∧ WellGs deep (level + 1) k p))
def WellGs (deep : Int) (level home : Int) : List G → Prop
  | [] => True
  | g :: gs => WellG deep level home g ∧ WellGs deep level home gs
end
theorem encG_len (os : List Bool) (k : Int) (l : List Pt) (r : List (List Pt)) (p : List G) (n : Nat) : (encG os (.mk k l r p) n).length = 5 + (encBody os k l r p n (ordB os n)).length := by
  rw [encG_eq os k l r p n _ rfl]; simp [encB_length]; omega
theorem encG_least (os : List Bool) (g : G) (n : Nat) : 9 ≤ (encG os g n).length := by
  obtain ⟨k, l, r, p⟩ := g
  rw [encG_len]
  unfold encBody
  split
  · rw [encPs_length]
    split
    · simp
    · have := List.length_pos_iff.2 ‹_›; omega
  split
  · simp [encB_length]; omega
  split <;> simp [encB_length] <;> omega
theorem encG_point (os : List Bool) (l : List Pt) (r : List (List Pt)) (p : List G) (n : Nat) : 21 ≤ (encG os (.mk 1 l r p) n).length := by
  rw [encG_len]
  unfold encBody
  rw [if_pos rfl, encPs_length]
  split
  · simp
  · have := List.length_pos_iff.2 ‹_›; omega
theorem encGs_least (os : List Bool) (deep level : Int) : ∀ (p : List G) (home : Int) (n : Nat), WellGs deep level home p → p.length * (if home = 4 then 21 else 9) ≤ (encGs os p n).length
  | [], _, _, _ => by simp
  | g :: p, home, n, h => by
    simp only [WellGs] at h
    have h1 := encGs_least os deep level p home (n + begunG g) h.2
    have h2 := encG_least os g n
    simp only [encGs, List.length_append, List.length_cons, Nat.succ_mul]
    by_cases h4 : home = 4
    · rw [if_pos h4] at h1 ⊢
      have h3 : 21 ≤ (encG os g n).length := by
        obtain ⟨k, l, r, q⟩ := g
        have hm := h.1
        simp only [WellG] at hm
        have : k = 1 := by have := hm.2.1; simp [memberB, h4] at this; omega
        subst this
        exact encG_point os l r q n
      omega
    · rw [if_neg h4] at h1 ⊢; omega
theorem headR_ok {l : List UInt8} {deep level home k : Int} {a : Nat} {lt : Bool} (h : Seg l a ((if lt then (1 : UInt8) else 0) :: encB 4 k.toNat lt)) (hk : 1 ≤ k ∧ k ≤ 7) (hm : memberB home k = true) (hd : level ≤ deep) : headR l deep a level home = .ok (lt, k.toNat) := by
  have hl := h.len
  simp only [List.length_cons, encB_length] at hl
  obtain ⟨p, hp⟩ := h
  have ha : a < l.length := by omega
  have hb : l[a]'ha = if lt then 1 else 0 := by
    have := congrArg (·[0]?) hp
    simp at this
    rw [List.getElem?_eq_getElem ha] at this
    simpa using this
  have h2 : Seg l (a + 1) (encB 4 k.toNat lt) := Seg.right (s := [if lt then 1 else 0]) ⟨p, hp⟩
  have hw := h2.wd (by simp; omega)
  have ht : ((l[a]'ha).toNat == 1) = lt := by rw [hb]; cases lt <;> rfl
  have h1 : ¬ 1 < (l[a]'ha).toNat := by rw [hb]; cases lt <;> decide
  unfold headR
  rw [dif_neg (by omega)]
  simp only [ht, hw]
  rw [if_neg h1, if_neg (by omega), if_neg (by omega), if_neg (by rw [show ((k.toNat : Nat) : Int) = k by omega]; simp [hm]), if_neg (by omega)]
theorem rings_least (lt : Bool) : ∀ (r : List (List Pt)), (∀ x ∈ r, x ≠ []) → r.length * 20 ≤ (r.flatMap (encR lt)).length
  | [], _ => by simp
  | x :: r, h => by
    have h4 := rings_least lt r (fun y hy => h y (by simp [hy]))
    have h5 := List.length_pos_iff.2 (h x (by simp))
    simp only [List.flatMap_cons, List.length_append, List.length_cons, encR, encB_length, encPs_length] at h4 ⊢
    omega
mutual
/-- what is written is read again -/
theorem geom_back {l : List UInt8} {deep : Int} (os : List Bool) : ∀ (g : G) (f : Nat) (level home : Int) (a n : Nat), WellG deep level home g → deep - level < f → Seg l a (encG os g n) →
    ∃ bs, geomR l deep f level home a = .ok ((g, bs), a + (encG os g n).length)
  | .mk k ls r p, f, level, home, a, n, hw, hf, hs => by
    simp only [WellG] at hw
    obtain ⟨hlv, hm, hw⟩ := hw
    obtain ⟨f, rfl⟩ : ∃ f', f = f' + 1 := ⟨f - 1, by omega⟩
    obtain ⟨lt, hlt⟩ : ∃ lt, ordB os n = lt := ⟨_, rfl⟩
    have hk : 1 ≤ k ∧ k ≤ 7 := by rcases hw with h | h | h | h <;> omega
    have hlen := encG_len os k ls r p n
    rw [hlt] at hlen
    rw [encG_eq os k ls r p n lt hlt, show (k % 4294967296).toNat = k.toNat by omega] at hs
    have hs : Seg l a (((if lt then (1 : UInt8) else 0) :: encB 4 k.toNat lt) ++ encBody os k ls r p n lt) := hs
    have hh := headR_ok hs.left hk hm hlv
    have hb := hs.right
    simp only [List.length_cons, encB_length] at hb
    unfold geomR
    rw [hh, hlen]
    simp only
    rcases hw with ⟨rfl, rfl, rfl, h1, h2⟩ | ⟨rfl, rfl, rfl, h1, h2⟩ | ⟨rfl, rfl, rfl, h1, h2⟩ | ⟨h0, h7, rfl, rfl, h1, h2⟩
    · have hb : Seg l (a + 5) (encPs lt (if ls = [] then [nowherePt] else ls)) := by simpa [encBody] using hb
      rw [if_pos (show (1 : Int).toNat = 1 from rfl), place_back hb h1 h2]
      refine ⟨[lt], ?_⟩
      have : (if ls = [] then [nowherePt] else ls).length = 1 := by
        match ls, h1 with
        | [], _ => rfl
        | [_], _ => rfl
      simp only [Except.map, encBody, if_true, encPs_length, this]
    · have hb : Seg l (a + 5) (encB 4 ls.length lt ++ encPs lt ls) := by simpa [encBody] using hb
      rw [if_neg (show ¬ (2 : Int).toNat = 1 by decide), if_pos (show (2 : Int).toNat = 2 from rfl), count_back hb h1 (by rw [encPs_length]; omega)]
      have h3 := hb.right
      rw [encB_length] at h3
      simp only [pts_back ls _ h3 h2]
      refine ⟨[lt], ?_⟩
      rw [show encBody os 2 ls [] [] n lt = encB 4 ls.length lt ++ encPs lt ls by simp [encBody]]
      rw [List.length_append, encPs_length, encB_length, show a + (5 + (4 + 16 * ls.length)) = a + 5 + 4 + 16 * ls.length by omega]
      rfl
    · have hb : Seg l (a + 5) (encB 4 r.length lt ++ r.flatMap (encR lt)) := by simpa [encBody] using hb
      rw [if_neg (show ¬ (3 : Int).toNat = 1 by decide), if_neg (show ¬ (3 : Int).toNat = 2 by decide), if_pos (show (3 : Int).toNat = 3 from rfl), count_back hb h1 (rings_least lt r fun x hx => (h2 x hx).1)]
      have h3 := hb.right
      rw [encB_length] at h3
      simp only [rings_back r _ h3 h2]
      refine ⟨[lt], ?_⟩
      rw [show encBody os 3 [] r [] n lt = encB 4 r.length lt ++ r.flatMap (encR lt) by simp [encBody]]
      rw [List.length_append, encB_length, show a + (5 + (4 + (r.flatMap (encR lt)).length)) = a + 5 + 4 + (r.flatMap (encR lt)).length by omega]
      rfl
    · have hbe : encBody os k [] [] p n lt = encB 4 p.length lt ++ encGs os p (n + 1) := by
        unfold encBody
        rw [if_neg (by omega), if_neg (by omega), if_neg (by omega)]
      rw [hbe] at hb ⊢
      have hb : Seg l (a + 5) (encB 4 p.length lt ++ encGs os p (n + 1)) := hb
      have hkk : (if k.toNat = 4 then 21 else 9) = (if k = 4 then 21 else 9) := by
        by_cases h : k = 4
        · subst h; rfl
        · rw [if_neg h, if_neg (by omega)]
      rw [if_neg (show ¬ k.toNat = 1 by omega), if_neg (show ¬ k.toNat = 2 by omega), if_neg (show ¬ k.toNat = 3 by omega), hkk, count_back hb h1 (encGs_least os deep (level + 1) p k (n + 1) h2)]
      have h3 := hb.right
      rw [encB_length] at h3
      obtain ⟨bs, h4, h5⟩ := geoms_back os p f (level + 1) k _ (n + 1) h2 (by omega) h3
      rw [show ((k.toNat : Nat) : Int) = k by omega]
      simp only [h4]
      refine ⟨lt :: (bs.map (·.2)).flatten, ?_⟩
      rw [List.length_append, encB_length, show a + (5 + (4 + (encGs os p (n + 1)).length)) = a + 5 + 4 + (encGs os p (n + 1)).length by omega]
      simp only [Except.map, h5]
theorem geoms_back {l : List UInt8} {deep : Int} (os : List Bool) : ∀ (p : List G) (f : Nat) (level home : Int) (a n : Nat), WellGs deep level home p → deep - level < f → Seg l a (encGs os p n) →
    ∃ xs, manyR (geomR l deep f level home) p.length a = .ok (xs, a + (encGs os p n).length) ∧ xs.map (·.1) = p
  | [], f, level, home, a, n, _, _, _ => ⟨[], rfl, rfl⟩
  | g :: p, f, level, home, a, n, hw, hf, hs => by
    simp only [WellGs] at hw
    simp only [encGs] at hs ⊢
    obtain ⟨bs, h1⟩ := geom_back os g f level home a n hw.1 hf hs.left
    obtain ⟨xs, h2, h3⟩ := geoms_back os p f level home _ _ hw.2 hf hs.right
    refine ⟨(g, bs) :: xs, ?_, by simp only [List.map_cons, h3]⟩
    simp only [List.length_cons, manyR, h1, h2, List.length_append, Nat.add_assoc]
end
end Go.Proofs.YtlffgepnhhnadaaDoor.Pl
