/- The laws of sums, of what is written and read, of records, in plain Lean. -/
import Derived.Test.YtlffgepnhhnadaaDoorAlive
namespace Go.Proofs.YtlffgepnhhnadaaDoor.Pl
open Go.RowKit

theorem crcBit_xor (x y : Nat) : crcBit (x ^^^ y) = crcBit x ^^^ crcBit y := by
  unfold crcBit
  rw [Nat.xor_div_two]
  have hx : (x ^^^ y) % 2 = 1 ↔ ¬ (x % 2 = 1 ↔ y % 2 = 1) := Nat.xor_mod_two_eq_one
  have e : (if (x ^^^ y) % 2 = 1 then 3988292384 else 0) = (if x % 2 = 1 then 3988292384 else 0) ^^^ (if y % 2 = 1 then 3988292384 else 0) := by
    by_cases h1 : x % 2 = 1 <;> by_cases h2 : y % 2 = 1 <;> simp [hx, h1, h2]
  rw [e]; ac_rfl
theorem crcBits_xor : ∀ (n x y : Nat), crcBits n (x ^^^ y) = crcBits n x ^^^ crcBits n y
  | 0, _, _ => rfl
  | n + 1, x, y => by simp only [crcBits, crcBit_xor]; exact crcBits_xor n _ _
theorem crcByte_xor (x y : Nat) (a b : UInt8) : crcByte (x ^^^ y) (a ^^^ b) = crcByte x a ^^^ crcByte y b := by
  unfold crcByte
  rw [← crcBits_xor, UInt8.toNat_xor]
  congr 1; ac_rfl
theorem crcR_xor : ∀ (l m : List UInt8) (x y : Nat), l.length = m.length → crcR (x ^^^ y) (List.zipWith (· ^^^ ·) l m) = crcR x l ^^^ crcR y m
  | [], [], x, y, _ => rfl
  | a :: l, b :: m, x, y, h => by
    have := crcR_xor l m (crcByte x a) (crcByte y b) (by simpa using h)
    rw [← crcByte_xor] at this
    exact this
theorem zip_zero : ∀ (l : List UInt8), List.zipWith (· ^^^ ·) l (List.replicate l.length (0 : UInt8)) = l
  | [] => rfl
  | a :: l => by simp [List.replicate_succ, zip_zero l]
theorem sumR_xor (l : List UInt8) : sumR l = 4294967295 ^^^ crcR 4294967295 l := by rw [xor_ones _ (crcR_lt l _ (by decide))]; rfl
theorem sum_three (l m : List UInt8) (h : l.length = m.length) : sumR l ^^^ sumR m ^^^ sumR (List.replicate l.length 0) = sumR (List.zipWith (· ^^^ ·) l m) := by
  have h1 := crcR_xor l m 4294967295 4294967295 h
  have h2 := crcR_xor (List.zipWith (· ^^^ ·) l m) (List.replicate l.length 0) (4294967295 ^^^ 4294967295) 4294967295 (by simp [← h])
  have h3 := zip_zero (List.zipWith (· ^^^ ·) l m)
  rw [show (List.zipWith (· ^^^ ·) l m).length = l.length by simp [← h]] at h3
  rw [h3, h1, Nat.xor_self, Nat.zero_xor] at h2
  simp only [sumR_xor]
  rw [h2]
  have : ∀ F a b c : Nat, F ^^^ a ^^^ (F ^^^ b) ^^^ (F ^^^ c) = F ^^^ (a ^^^ b ^^^ c) := fun F a b c => by
    have : F ^^^ a ^^^ (F ^^^ b) ^^^ (F ^^^ c) = (F ^^^ F) ^^^ (F ^^^ (a ^^^ b ^^^ c)) := by ac_rfl
    rw [this, Nat.xor_self, Nat.zero_xor]
  exact this _ _ _ _
/-- a step can be taken back -/
theorem crcBit_inj {x y : Nat} (hx : x < 4294967296) (hy : y < 4294967296) (h : crcBit x = crcBit y) : x = y := by
  have h1 : crcBit (x ^^^ y) = 0 := by rw [crcBit_xor, h, Nat.xor_self]
  have hl : x ^^^ y < 4294967296 := Nat.xor_lt_two_pow (n := 32) hx hy
  have h2 : x ^^^ y = 0 := by
    generalize x ^^^ y = z at h1 hl
    unfold crcBit at h1
    by_cases hz : z % 2 = 1
    · rw [if_pos hz] at h1
      have e : z / 2 = 3988292384 := by
        have := congrArg (· ^^^ 3988292384) h1
        simpa [Nat.xor_assoc] using this
      omega
    · rw [if_neg hz, Nat.xor_zero] at h1
      omega
  have := congrArg (· ^^^ y) h2
  simpa [Nat.xor_assoc] using this
theorem crcBits_inj : ∀ (n : Nat) {x y : Nat}, x < 4294967296 → y < 4294967296 → crcBits n x = crcBits n y → x = y
  | 0, _, _, _, _, h => h
  | n + 1, _, _, hx, hy, h => crcBit_inj hx hy (crcBits_inj n (crcBit_lt hx) (crcBit_lt hy) h)
theorem xor_cancel {a b c : Nat} (h : a ^^^ c = b ^^^ c) : a = b := by
  have := congrArg (· ^^^ c) h
  simpa [Nat.xor_assoc] using this
theorem xb_lt {x : Nat} (c : UInt8) (h : x < 4294967296) : x ^^^ c.toNat < 4294967296 := Nat.xor_lt_two_pow (n := 32) h (Nat.lt_of_lt_of_le c.toNat_lt (by decide))
theorem crcByte_inj {x y : Nat} (c : UInt8) (hx : x < 4294967296) (hy : y < 4294967296) (h : crcByte x c = crcByte y c) : x = y :=
  xor_cancel (crcBits_inj 8 (xb_lt c hx) (xb_lt c hy) h)
theorem crcR_inj : ∀ (l : List UInt8) {x y : Nat}, x < 4294967296 → y < 4294967296 → crcR x l = crcR y l → x = y
  | [], _, _, _, _, h => h
  | c :: l, _, _, hx, hy, h => crcByte_inj c hx hy (crcR_inj l (crcByte_lt c hx) (crcByte_lt c hy) h)
/-- one byte changed: another sum -/
theorem crcR_set (l : List UInt8) (k : Nat) (hk : k < l.length) (c : UInt8) {x : Nat} (hx : x < 4294967296) (h : crcR x (l.set k c) = crcR x l) : c = l[k] := by
  have e1 : l.set k c = l.take k ++ c :: l.drop (k + 1) := List.set_eq_take_append_cons_drop ▸ by simp [hk]
  have e2 : l = l.take k ++ l[k] :: l.drop (k + 1) := by simp
  have e3 : crcR x l = crcR (crcByte (crcR x (l.take k)) l[k]) (l.drop (k + 1)) := (congrArg (crcR x) e2).trans (by simp only [crcR, List.foldl_append, List.foldl_cons])
  rw [e1, e3] at h
  have e4 : crcR x (l.take k ++ c :: l.drop (k + 1)) = crcR (crcByte (crcR x (l.take k)) c) (l.drop (k + 1)) := by simp [crcR]
  rw [e4] at h
  have hq := crcR_lt (l.take k) x hx
  have h5 := crcR_inj _ (crcByte_lt c hq) (crcByte_lt l[k] hq) h
  have h6 := crcBits_inj 8 (xb_lt c hq) (xb_lt l[k] hq) h5
  rw [Nat.xor_comm _ c.toNat, Nat.xor_comm _ l[k].toNat] at h6
  exact UInt8.toNat_inj.1 (xor_cancel h6)
theorem sumR_set (l : List UInt8) (k : Nat) (hk : k < l.length) (c : UInt8) (hc : c ≠ l[k]) : sumR (l.set k c) ≠ sumR l := by
  intro h
  have h1 := crcR_lt l 4294967295 (by decide)
  have h2 := crcR_lt (l.set k c) 4294967295 (by decide)
  unfold sumR at h
  exact hc (crcR_set l k hk c (x := 4294967295) (by decide) (by omega))

/-- bytes that stand at a place -/
def Seg (l : List UInt8) (a : Nat) (s : List UInt8) : Prop := ∃ post, l.drop a = s ++ post
theorem Seg.left {l s t : List UInt8} {a : Nat} (h : Seg l a (s ++ t)) : Seg l a s := by obtain ⟨p, h⟩ := h; exact ⟨t ++ p, by rw [h, List.append_assoc]⟩
theorem Seg.right {l s t : List UInt8} {a : Nat} (h : Seg l a (s ++ t)) : Seg l (a + s.length) t := by
  obtain ⟨p, h⟩ := h
  exact ⟨p, by rw [← List.drop_drop, h, List.append_assoc, List.drop_left]⟩
theorem Seg.len {l s : List UInt8} {a : Nat} (h : Seg l a s) : s.length ≤ l.length - a := by
  obtain ⟨p, h⟩ := h
  have := congrArg List.length h
  simp at this; omega
theorem Seg.all (l m : List UInt8) : Seg (l ++ m) 0 l := ⟨m, rfl⟩

theorem encB_big (n v : Nat) : encB (n + 1) v false = encB n (v / 256) false ++ [UInt8.ofNat v] := by
  unfold encB
  rw [List.range_succ, List.map_append]
  simp only [Bool.false_eq_true, if_false]
  congr 1
  · refine List.map_congr_left fun i hi => ?_
    have hi := List.mem_range.1 hi
    rw [Nat.div_div_eq_div_mul, show (256 : Nat) = 2 ^ 8 from rfl, ← Nat.pow_add, show 8 + 8 * (n - 1 - i) = 8 * (n + 1 - 1 - i) by omega]
  · simp
theorem encB_little (n v : Nat) : encB (n + 1) v true = UInt8.ofNat v :: encB n (v / 256) true := by
  unfold encB
  rw [List.range_succ_eq_map, List.map_cons, List.map_map]
  simp only [if_true]
  congr 1
  · simp
  · refine List.map_congr_left fun i _ => ?_
    show UInt8.ofNat (v / 2 ^ (8 * (i + 1))) = _
    rw [Nat.div_div_eq_div_mul, show (256 : Nat) = 2 ^ 8 from rfl, ← Nat.pow_add, show 8 + 8 * i = 8 * (i + 1) by omega]
theorem u8_ofNat (v : Nat) : (UInt8.ofNat v).toNat = v % 256 := by simp
theorem dec_enc (lt : Bool) : ∀ (n v : Nat), v < 256 ^ n → decB (encB n v lt) lt = v
  | 0, v, h => by
    have : v = 0 := by simpa using h
    subst this; cases lt <;> rfl
  | n + 1, v, h => by
    have hv : v / 256 < 256 ^ n := by rw [Nat.pow_succ] at h; omega
    have ih := dec_enc lt n (v / 256) hv
    unfold decB at ih ⊢
    cases lt with
    | true =>
      simp only [if_true] at ih ⊢
      rw [encB_little, List.foldr_cons, ih, u8_ofNat]; omega
    | false =>
      simp only [Bool.false_eq_true, if_false] at ih ⊢
      rw [encB_big, List.foldl_append, ih, List.foldl_cons, List.foldl_nil, u8_ofNat]; omega
theorem Seg.wd {l : List UInt8} {a n v : Nat} {lt : Bool} (h : Seg l a (encB n v lt)) (hv : v < 256 ^ n) : wd l a n lt = v := by
  obtain ⟨p, h⟩ := h
  unfold Pl.wd
  rw [h, List.take_left' (encB_length _ _ _)]
  exact dec_enc lt n v hv

theorem finP_num {l : List UInt8} {a v : Nat} {lt : Bool} (h : Seg l a (encB 8 v lt)) (hv : v < 18446744073709551616) (hf : cls v ≤ 2) : numR l lt a = .ok v := by
  unfold numR
  rw [h.wd (by simpa using hv), if_neg (by omega)]
theorem pt_back {l : List UInt8} {a : Nat} {p : Pt} {lt : Bool} (h : Seg l a (encP lt p)) (hp : PtOk p) (hf : finP p = true) : ptR l lt a = .ok p := by
  simp only [finP, Bool.and_eq_true, decide_eq_true_eq] at hf
  have h1 := finP_num h.left hp.1 hf.1
  have h2 := finP_num h.right hp.2 hf.2
  rw [encB_length] at h2
  unfold ptR
  rw [h1, h2]
theorem pts_back {l : List UInt8} {lt : Bool} : ∀ (ps : List Pt) (a : Nat), Seg l a (encPs lt ps) → (∀ p ∈ ps, PtOk p ∧ finP p = true) → ptsR l lt ps.length a = .ok (ps, a + 16 * ps.length)
  | [], a, _, _ => rfl
  | p :: ps, a, h, hp => by
    have h : Seg l a (encP lt p ++ encPs lt ps) := by simpa [encPs] using h
    have h1 := pt_back h.left (hp p (by simp)).1 (hp p (by simp)).2
    have h2 := h.right
    rw [encP_length] at h2
    have h3 := pts_back ps (a + 16) h2 (fun q hq => hp q (by simp [hq]))
    unfold ptsR at h3 ⊢
    simp only [List.length_cons, manyR, h1, show (Except.ok p : Except PErr Pt).map (fun p => (p, a + 16)) = .ok (p, a + 16) from rfl, h3]
    rw [show a + 16 + 16 * ps.length = a + 16 * (ps.length + 1) by omega]
theorem place_back {l : List UInt8} {lt : Bool} {ps : List Pt} {a : Nat} (h : Seg l a (encPs lt (if ps = [] then [nowherePt] else ps))) (h1 : ps.length ≤ 1) (hp : ∀ p ∈ ps, PtOk p ∧ finP p = true) : placeR l lt a = .ok (ps, a + 16) := by
  obtain ⟨q, hq⟩ : ∃ q, (if ps = [] then [nowherePt] else ps) = [q] := by
    match ps, h1 with
    | [], _ => exact ⟨_, rfl⟩
    | [q], _ => exact ⟨q, rfl⟩
  have h : Seg l a (encB 8 q.1 lt ++ encB 8 q.2 lt) := by rw [hq] at h; simpa [encPs, encP] using h
  have hlen := h.len
  have e1 := h.left
  have e2 := h.right
  simp only [List.length_append, encB_length] at hlen e2
  have hok : PtOk q := by
    match ps, h1 with
    | [], _ => simp at hq; subst hq; exact ⟨by decide, by decide⟩
    | [x], _ => simp at hq; subst hq; exact (hp x (by simp)).1
  have w1 := e1.wd (by simpa using hok.1)
  have w2 := e2.wd (by simpa using hok.2)
  unfold placeR
  rw [w1, w2, if_neg (by omega), if_neg (by omega)]
  match ps, h1 with
  | [], _ =>
    simp at hq; subst hq
    rw [if_pos (by decide)]
  | [x], _ =>
    simp at hq; subst hq
    have hf := (hp x (by simp)).2
    simp only [finP, Bool.and_eq_true, decide_eq_true_eq] at hf
    rw [if_neg (by omega), if_neg (by omega), if_neg (by omega)]
theorem count_back {l : List UInt8} {lt : Bool} {least n a : Nat} {s : List UInt8} (h : Seg l a (encB 4 n lt ++ s)) (hn : n < 4294967296) (hs : n * least ≤ s.length) : countR l lt least a = .ok (n, a + 4) := by
  have h1 := h.left.wd (by simpa using hn)
  have h2 := h.len
  have h3 := h.right.len
  simp only [List.length_append, encB_length] at h2 h3
  unfold countR
  rw [h1, if_neg (by omega), if_neg (by omega)]
theorem ring_back {l : List UInt8} {lt : Bool} {r : List Pt} {a : Nat} (h : Seg l a (encR lt r)) (h0 : r ≠ []) (hn : r.length < 4294967296) (hp : ∀ p ∈ r, PtOk p ∧ finP p = true) : ringR l lt a = .ok (r, a + (encR lt r).length) := by
  unfold encR at h
  have h1 := h.left.wd (by simpa using hn)
  have h2 := h.len
  have h3 := h.right.len
  have h4 := h.right
  simp only [List.length_append, encB_length, encPs_length] at h2 h3 h4
  have := List.length_pos_iff.2 h0
  unfold ringR
  rw [h1, if_neg (by omega), if_neg (by omega), if_neg (by omega), pts_back r _ h4 hp]
  simp only [encR, List.length_append, encB_length, encPs_length, Nat.add_assoc]
theorem rings_back {l : List UInt8} {lt : Bool} : ∀ (rs : List (List Pt)) (a : Nat), Seg l a (rs.flatMap (encR lt)) → (∀ r ∈ rs, r ≠ [] ∧ r.length < 4294967296 ∧ ∀ p ∈ r, PtOk p ∧ finP p = true) → manyR (ringR l lt) rs.length a = .ok (rs, a + (rs.flatMap (encR lt)).length)
  | [], a, _, _ => rfl
  | r :: rs, a, h, hp => by
    rw [List.flatMap_cons] at h
    obtain ⟨p0, p1, p2⟩ := hp r (by simp)
    have h1 := ring_back h.left p0 p1 p2
    have h3 := rings_back rs _ h.right (fun q hq => hp q (by simp [hq]))
    simp only [List.length_cons, manyR, h1, h3, List.flatMap_cons, List.length_append, Nat.add_assoc]

mutual
/-- a tree that can be written and read: at a level, as a part of a kind -/
def WellG (deep : Int) (level home : Int) : G → Prop
  | .mk k l r p => level ≤ deep ∧ memberB home k = true ∧ 
    ((k = 1 ∧ r = [] ∧ p = [] ∧ l.length ≤ 1 ∧ ∀ x ∈ l, PtOk x ∧ finP x = true) ∨
     (k = 2 ∧ r = [] ∧ p = [] ∧ l.length < 4294967296 ∧ ∀ x ∈ l, PtOk x ∧ finP x = true) ∨
     (k = 3 ∧ l = [] ∧ p = [] ∧ r.length < 4294967296 ∧ ∀ x ∈ r, x ≠ [] ∧ x.length < 4294967296 ∧ ∀ y ∈ x, PtOk y ∧ finP y = true) ∨
     (4 ≤ k ∧ k ≤ 7 ∧ l = [] ∧ r = [] ∧ p.length < 4294967296 ∧ WellGs deep (level + 1) k p))
def WellGs (deep : Int) (level home : Int) : List G → Prop
  | [] => True
  | g :: gs => WellG deep level home g ∧ WellGs deep level home gs
end
theorem encG_len (os : List Bool) (k : Int) (l : List Pt) (r : List (List Pt)) (p : List G) (n : Nat) : (encG os (.mk k l r p) n).length = 5 + (encBody os k l r p n (ordB os n)).length := by
  rw [encG_eq os k l r p n _ rfl]; simp [encB_length]; omega
theorem encG_least (os : List Bool) (g : G) (n : Nat) : 9 ≤ (encG os g n).length := by
  obtain ⟨k, l, r, p⟩ := g
  rw [encG_len]
  unfold encBody
  split
  · rw [encPs_length]
    split
    · simp
    · have := List.length_pos_iff.2 ‹_›; omega
  split
  · simp [encB_length]; omega
  split <;> simp [encB_length] <;> omega
theorem encG_point (os : List Bool) (l : List Pt) (r : List (List Pt)) (p : List G) (n : Nat) : 21 ≤ (encG os (.mk 1 l r p) n).length := by
  rw [encG_len]
  unfold encBody
  rw [if_pos rfl, encPs_length]
  split
  · simp
  · have := List.length_pos_iff.2 ‹_›; omega
theorem encGs_least (os : List Bool) (deep level : Int) : ∀ (p : List G) (home : Int) (n : Nat), WellGs deep level home p → p.length * (if home = 4 then 21 else 9) ≤ (encGs os p n).length
  | [], _, _, _ => by simp
  | g :: p, home, n, h => by
    simp only [WellGs] at h
    have h1 := encGs_least os deep level p home (n + begunG g) h.2
    have h2 := encG_least os g n
    simp only [encGs, List.length_append, List.length_cons, Nat.succ_mul]
    by_cases h4 : home = 4
    · rw [if_pos h4] at h1 ⊢
      have h3 : 21 ≤ (encG os g n).length := by
        obtain ⟨k, l, r, q⟩ := g
        have hm := h.1
        simp only [WellG] at hm
        have : k = 1 := by have := hm.2.1; simp [memberB, h4] at this; omega
        subst this
        exact encG_point os l r q n
      omega
    · rw [if_neg h4] at h1 ⊢; omega
theorem headR_ok {l : List UInt8} {deep level home k : Int} {a : Nat} {lt : Bool} (h : Seg l a ((if lt then (1 : UInt8) else 0) :: encB 4 k.toNat lt)) (hk : 1 ≤ k ∧ k ≤ 7) (hm : memberB home k = true) (hd : level ≤ deep) : headR l deep a level home = .ok (lt, k.toNat) := by
  have hl := h.len
  simp only [List.length_cons, encB_length] at hl
  obtain ⟨p, hp⟩ := h
  have ha : a < l.length := by omega
  have hb : l[a]'ha = if lt then 1 else 0 := by
    have := congrArg (·[0]?) hp
    simp at this
    rw [List.getElem?_eq_getElem ha] at this
    simpa using this
  have h2 : Seg l (a + 1) (encB 4 k.toNat lt) := Seg.right (s := [if lt then 1 else 0]) ⟨p, hp⟩
  have hw := h2.wd (by simp; omega)
  have ht : ((l[a]'ha).toNat == 1) = lt := by rw [hb]; cases lt <;> rfl
  have h1 : ¬ 1 < (l[a]'ha).toNat := by rw [hb]; cases lt <;> decide
  unfold headR
  rw [dif_neg (by omega)]
  simp only [ht, hw]
  rw [if_neg h1, if_neg (by omega), if_neg (by omega), if_neg (by rw [show ((k.toNat : Nat) : Int) = k by omega]; simp [hm]), if_neg (by omega)]
theorem rings_least (lt : Bool) : ∀ (r : List (List Pt)), (∀ x ∈ r, x ≠ []) → r.length * 20 ≤ (r.flatMap (encR lt)).length
  | [], _ => by simp
  | x :: r, h => by
    have h4 := rings_least lt r (fun y hy => h y (by simp [hy]))
    have h5 := List.length_pos_iff.2 (h x (by simp))
    simp only [List.flatMap_cons, List.length_append, List.length_cons, encR, encB_length, encPs_length] at h4 ⊢
    omega
mutual
/-- what is written is read again -/
theorem geom_back {l : List UInt8} {deep : Int} (os : List Bool) : ∀ (g : G) (f : Nat) (level home : Int) (a n : Nat), WellG deep level home g → deep - level < f → Seg l a (encG os g n) →
    ∃ bs, geomR l deep f level home a = .ok ((g, bs), a + (encG os g n).length)
  | .mk k ls r p, f, level, home, a, n, hw, hf, hs => by
    simp only [WellG] at hw
    obtain ⟨hlv, hm, hw⟩ := hw
    obtain ⟨f, rfl⟩ : ∃ f', f = f' + 1 := ⟨f - 1, by omega⟩
    obtain ⟨lt, hlt⟩ : ∃ lt, ordB os n = lt := ⟨_, rfl⟩
    have hk : 1 ≤ k ∧ k ≤ 7 := by rcases hw with h | h | h | h <;> omega
    have hlen := encG_len os k ls r p n
    rw [hlt] at hlen
    rw [encG_eq os k ls r p n lt hlt, show (k % 4294967296).toNat = k.toNat by omega] at hs
    have hs : Seg l a (((if lt then (1 : UInt8) else 0) :: encB 4 k.toNat lt) ++ encBody os k ls r p n lt) := hs
    have hh := headR_ok hs.left hk hm hlv
    have hb := hs.right
    simp only [List.length_cons, encB_length] at hb
    unfold geomR
    rw [hh, hlen]
    simp only
    rcases hw with ⟨rfl, rfl, rfl, h1, h2⟩ | ⟨rfl, rfl, rfl, h1, h2⟩ | ⟨rfl, rfl, rfl, h1, h2⟩ | ⟨h0, h7, rfl, rfl, h1, h2⟩
    · have hb : Seg l (a + 5) (encPs lt (if ls = [] then [nowherePt] else ls)) := by simpa [encBody] using hb
      rw [if_pos (show (1 : Int).toNat = 1 from rfl), place_back hb h1 h2]
      refine ⟨[lt], ?_⟩
      have : (if ls = [] then [nowherePt] else ls).length = 1 := by
        match ls, h1 with
        | [], _ => rfl
        | [_], _ => rfl
      simp only [Except.map, encBody, if_true, encPs_length, this]
    · have hb : Seg l (a + 5) (encB 4 ls.length lt ++ encPs lt ls) := by simpa [encBody] using hb
      rw [if_neg (show ¬ (2 : Int).toNat = 1 by decide), if_pos (show (2 : Int).toNat = 2 from rfl), count_back hb h1 (by rw [encPs_length]; omega)]
      have h3 := hb.right
      rw [encB_length] at h3
      simp only [pts_back ls _ h3 h2]
      refine ⟨[lt], ?_⟩
      rw [show encBody os 2 ls [] [] n lt = encB 4 ls.length lt ++ encPs lt ls by simp [encBody]]
      rw [List.length_append, encPs_length, encB_length, show a + (5 + (4 + 16 * ls.length)) = a + 5 + 4 + 16 * ls.length by omega]
      rfl
    · have hb : Seg l (a + 5) (encB 4 r.length lt ++ r.flatMap (encR lt)) := by simpa [encBody] using hb
      rw [if_neg (show ¬ (3 : Int).toNat = 1 by decide), if_neg (show ¬ (3 : Int).toNat = 2 by decide), if_pos (show (3 : Int).toNat = 3 from rfl), count_back hb h1 (rings_least lt r fun x hx => (h2 x hx).1)]
      have h3 := hb.right
      rw [encB_length] at h3
      simp only [rings_back r _ h3 h2]
      refine ⟨[lt], ?_⟩
      rw [show encBody os 3 [] r [] n lt = encB 4 r.length lt ++ r.flatMap (encR lt) by simp [encBody]]
      rw [List.length_append, encB_length, show a + (5 + (4 + (r.flatMap (encR lt)).length)) = a + 5 + 4 + (r.flatMap (encR lt)).length by omega]
      rfl
    · have hbe : encBody os k [] [] p n lt = encB 4 p.length lt ++ encGs os p (n + 1) := by
        unfold encBody
        rw [if_neg (by omega), if_neg (by omega), if_neg (by omega)]
      rw [hbe] at hb ⊢
      have hb : Seg l (a + 5) (encB 4 p.length lt ++ encGs os p (n + 1)) := hb
      have hkk : (if k.toNat = 4 then 21 else 9) = (if k = 4 then 21 else 9) := by
        by_cases h : k = 4
        · subst h; rfl
        · rw [if_neg h, if_neg (by omega)]
      rw [if_neg (show ¬ k.toNat = 1 by omega), if_neg (show ¬ k.toNat = 2 by omega), if_neg (show ¬ k.toNat = 3 by omega), hkk, count_back hb h1 (encGs_least os deep (level + 1) p k (n + 1) h2)]
      have h3 := hb.right
      rw [encB_length] at h3
      obtain ⟨bs, h4, h5⟩ := geoms_back os p f (level + 1) k _ (n + 1) h2 (by omega) h3
      rw [show ((k.toNat : Nat) : Int) = k by omega]
      simp only [h4]
      refine ⟨lt :: (bs.map (·.2)).flatten, ?_⟩
      rw [List.length_append, encB_length, show a + (5 + (4 + (encGs os p (n + 1)).length)) = a + 5 + 4 + (encGs os p (n + 1)).length by omega]
      simp only [Except.map, h5]
theorem geoms_back {l : List UInt8} {deep : Int} (os : List Bool) : ∀ (p : List G) (f : Nat) (level home : Int) (a n : Nat), WellGs deep level home p → deep - level < f → Seg l a (encGs os p n) →
    ∃ xs, manyR (geomR l deep f level home) p.length a = .ok (xs, a + (encGs os p n).length) ∧ xs.map (·.1) = p
  | [], f, level, home, a, n, _, _, _ => ⟨[], rfl, rfl⟩
  | g :: p, f, level, home, a, n, hw, hf, hs => by
    simp only [WellGs] at hw
    simp only [encGs] at hs ⊢
    obtain ⟨bs, h1⟩ := geom_back os g f level home a n hw.1 hf hs.left
    obtain ⟨xs, h2, h3⟩ := geoms_back os p f level home _ _ hw.2 hf hs.right
    refine ⟨(g, bs) :: xs, ?_, by simp only [List.map_cons, h3]⟩
    simp only [List.length_cons, manyR, h1, h2, List.length_append, Nat.add_assoc]
end

/-- what a reading function says of longer bytes, and where its errors are -/
def Stable {α : Type} (F : List UInt8 → Nat → Except PErr (α × Nat)) : Prop := ∀ l m a x a', F l a = .ok (x, a') → a' ≤ l.length ∧ F (l ++ m) a = .ok (x, a')
def Placed {α : Type} (F : List UInt8 → Nat → Except PErr (α × Nat)) : Prop := ∀ l a e, a ≤ l.length → F l a = .error e → 0 ≤ e.1 ∧ e.1 ≤ (l.length : Int)
theorem wd_ext {l m : List UInt8} {a n : Nat} {lt : Bool} (h : a + n ≤ l.length) : wd (l ++ m) a n lt = wd l a n lt := by
  unfold wd
  rw [List.drop_append_of_le_length (by omega), List.take_append_of_le_length (by simp; omega)]
theorem many_stable {α : Type} {F : List UInt8 → Nat → Except PErr (α × Nat)} (h : Stable F) (n : Nat) : ∀ l m a x a', a ≤ l.length → manyR (F l) n a = .ok (x, a') → a' ≤ l.length ∧ manyR (F (l ++ m)) n a = .ok (x, a') := by
  induction n with
  | zero => intro l m a x a' ha h0; simp [manyR] at h0 ⊢; obtain ⟨rfl, rfl⟩ := h0; simp [ha]
  | succ n ih =>
    intro l m a x a' ha h0
    simp only [manyR] at h0 ⊢
    split at h0
    · cases h0
    rename_i y a1 h1
    split at h0
    · cases h0
    rename_i ys a2 h2
    cases h0
    obtain ⟨k1, k2⟩ := h l m a y a1 h1
    obtain ⟨k3, k4⟩ := ih l m a1 ys _ k1 h2
    rw [k2]; simp only [k4]
    exact ⟨k3, trivial⟩
theorem many_placed {α : Type} {F : List UInt8 → Nat → Except PErr (α × Nat)} (h : Stable F) (hp : Placed F) (n : Nat) : ∀ l a e, a ≤ l.length → manyR (F l) n a = .error e → 0 ≤ e.1 ∧ e.1 ≤ (l.length : Int) := by
  induction n with
  | zero => intro l a e ha h0; simp [manyR] at h0
  | succ n ih =>
    intro l a e ha h0
    simp only [manyR] at h0
    split at h0
    · rename_i e1 h1
      cases h0
      exact hp l a _ ha h1
    rename_i y a1 h1
    split at h0
    · rename_i e1 h2
      cases h0
      exact ih l a1 _ (h l [] a y a1 h1).1 h2
    · cases h0
theorem numR_ext {l m : List UInt8} {a : Nat} {lt : Bool} (h : a + 8 ≤ l.length) : numR (l ++ m) lt a = numR l lt a := by unfold numR; rw [wd_ext h]
theorem ptR_ext {l m : List UInt8} {a : Nat} {lt : Bool} (h : a + 16 ≤ l.length) : ptR (l ++ m) lt a = ptR l lt a := by unfold ptR; rw [numR_ext (by omega), numR_ext (by omega)]
theorem ptsR_ext {l m : List UInt8} {lt : Bool} : ∀ (n a : Nat), a + 16 * n ≤ l.length → ptsR (l ++ m) lt n a = ptsR l lt n a
  | 0, _, _ => rfl
  | n + 1, a, h => by
    have h1 := ptsR_ext (l := l) (m := m) (lt := lt) n (a + 16) (by omega)
    unfold ptsR at h1 ⊢
    simp only [manyR]
    rw [ptR_ext (l := l) (by omega)]
    cases ptR l lt a with
    | error e => rfl
    | ok p => simp only [Except.map] at h1 ⊢; rw [h1]
theorem ptsR_at {l : List UInt8} {lt : Bool} : ∀ (n a : Nat) (xs : List Pt) (a' : Nat), ptsR l lt n a = .ok (xs, a') → a' = a + 16 * n
  | 0, a, xs, a', h => by simp [ptsR, manyR] at h; omega
  | n + 1, a, xs, a', h => by
    unfold ptsR at h
    simp only [manyR] at h
    split at h
    · cases h
    rename_i y a1 h1
    obtain ⟨p, _, hp⟩ := map_ok h1
    cases hp
    split at h
    · cases h
    rename_i ys a2 h2
    cases h
    have := ptsR_at n _ _ _ h2
    omega
theorem numR_err {l : List UInt8} {lt : Bool} {a : Nat} {e : PErr} (h : numR l lt a = .error e) : e.1 = a := by
  unfold numR at h; split at h <;> cases h; rfl
theorem ptR_err {l : List UInt8} {lt : Bool} {a : Nat} {e : PErr} (h : ptR l lt a = .error e) : (a : Int) ≤ e.1 ∧ e.1 ≤ a + 8 := by
  unfold ptR at h
  split at h
  · rename_i h1; cases h; have := numR_err h1; omega
  split at h
  · rename_i h1; cases h; have := numR_err h1; omega
  · cases h
theorem ptsR_err {l : List UInt8} {lt : Bool} : ∀ (n a : Nat) (e : PErr), ptsR l lt n a = .error e → (a : Int) ≤ e.1 ∧ e.1 ≤ a + 16 * n
  | 0, a, e, h => by simp [ptsR, manyR] at h
  | n + 1, a, e, h => by
    unfold ptsR at h
    simp only [manyR] at h
    split at h
    · rename_i e1 h1
      cases h
      cases hp : ptR l lt a with
      | error e2 =>
        rw [hp] at h1; cases h1
        have := ptR_err hp; omega
      | ok p => rw [hp] at h1; cases h1
    rename_i y a1 h1
    obtain ⟨p, _, hp⟩ := map_ok h1
    cases hp
    split at h
    · rename_i e1 h2
      cases h
      have := ptsR_err n _ _ h2
      omega
    · cases h
theorem countR_ext {l m : List UInt8} {lt : Bool} {least a n a' : Nat} (h : countR l lt least a = .ok (n, a')) : countR (l ++ m) lt least a = .ok (n, a') := by
  have hl := countR_len h
  have hn : wd l a 4 lt = n := by
    unfold countR at h
    split at h
    · cases h
    split at h
    · cases h
    cases h; rfl
  unfold countR
  rw [wd_ext (by omega), hn, List.length_append, if_neg (by omega), if_neg (by omega), hl.1]
theorem countR_err {l : List UInt8} {lt : Bool} {least a : Nat} {e : PErr} (h : countR l lt least a = .error e) : e.1 = a := by
  unfold countR at h
  split at h
  · cases h; rfl
  split at h
  · cases h; rfl
  · cases h
theorem ring_stable (lt : Bool) : Stable fun l => ringR l lt := by
  intro l m a x a' h
  simp only [ringR] at h ⊢
  split at h
  · cases h
  split at h
  · cases h
  split at h
  · cases h
  have h1 := ptsR_at _ _ _ _ h
  refine ⟨by omega, ?_⟩
  rw [wd_ext (by omega), List.length_append, if_neg (by omega), if_neg (by omega), if_neg (by omega), ptsR_ext _ _ (by omega)]
  exact h
theorem ring_placed (lt : Bool) : Placed fun l => ringR l lt := by
  intro l a e ha h
  simp only [ringR] at h
  split at h
  · cases h; simp; omega
  split at h
  · cases h; simp; omega
  split at h
  · cases h; simp; omega
  have := ptsR_err _ _ _ h
  omega
theorem place_stable (lt : Bool) : Stable fun l => placeR l lt := by
  intro l m a x a' h
  simp only [placeR] at h ⊢
  split at h
  · cases h
  split at h
  · cases h
  have e1 : wd (l ++ m) a 8 lt = wd l a 8 lt := wd_ext (by omega)
  have e2 : wd (l ++ m) (a + 8) 8 lt = wd l (a + 8) 8 lt := wd_ext (by omega)
  rw [e1, e2, List.length_append, if_neg (by omega), if_neg (by omega)]
  refine ⟨?_, h⟩
  repeat' split at h
  all_goals first | (cases h; done) | skip
  all_goals (simp only [Except.ok.injEq, Prod.mk.injEq] at h; omega)
theorem place_placed (lt : Bool) : Placed fun l => placeR l lt := by
  intro l a e ha h
  simp only [placeR] at h
  repeat' split at h
  all_goals first | (cases h; done) | skip
  all_goals (cases h; simp; omega)
theorem head_stable {l m : List UInt8} {deep level home : Int} {a : Nat} {x : Bool × Nat} (h : headR l deep a level home = .ok x) : a + 5 ≤ l.length ∧ headR (l ++ m) deep a level home = .ok x := by
  unfold headR at h ⊢
  split at h
  · cases h
  rename_i h0
  have hg : (l ++ m)[a]'(by simp; omega) = l[a]'(by omega) := List.getElem_append_left (by omega)
  rw [dif_neg (by simp; omega)]
  rw [hg]
  split at h
  · cases h
  split at h
  · cases h
  rw [wd_ext (by omega), List.length_append, if_neg (by assumption), if_neg (by omega)]
  exact ⟨by omega, h⟩
theorem head_placed {l : List UInt8} {deep level home : Int} {a : Nat} {e : PErr} (ha : a ≤ l.length) (h : headR l deep a level home = .error e) : 0 ≤ e.1 ∧ e.1 ≤ (l.length : Int) := by
  unfold headR at h
  repeat' split at h
  all_goals first | (cases h; done) | skip
  all_goals (cases h; simp; omega)
theorem map_err {α β : Type} {r : Except PErr α} {f : α → β} {e : PErr} (h : r.map f = .error e) : r = .error e := by
  cases r with
  | error e => simpa [Except.map] using h
  | ok x => cases h
theorem geom_stable (deep : Int) : ∀ (f : Nat) (level home : Int), Stable fun l => geomR l deep f level home := by
  intro f
  induction f with
  | zero => intro level home l m a x a' h; cases h
  | succ f ih =>
    intro level home l m a x a' h
    simp only [geomR] at h ⊢
    split at h
    · cases h
    rename_i lt k hh
    obtain ⟨g1, g2⟩ := head_stable (m := m) hh
    rw [g2]
    simp only
    split at h
    · rename_i hk
      rw [if_pos hk]
      obtain ⟨r, hr, hx⟩ := map_ok h
      obtain ⟨q1, q2⟩ := place_stable lt l m _ _ _ hr
      simp only at q2
      rw [q2]
      cases hx
      exact ⟨q1, rfl⟩
    rename_i hk1
    rw [if_neg hk1]
    split at h
    · rename_i hk
      rw [if_pos hk]
      split at h
      · cases h
      rename_i n a1 hc
      rw [countR_ext hc]
      have hc := countR_len hc
      obtain ⟨r, hr, hx⟩ := map_ok h
      have := ptsR_at _ _ _ _ hr
      simp only
      rw [ptsR_ext _ _ (by omega), hr]
      cases hx
      exact ⟨by omega, rfl⟩
    rename_i hk2
    rw [if_neg hk2]
    split at h
    · rename_i hk
      rw [if_pos hk]
      split at h
      · cases h
      rename_i n a1 hc
      rw [countR_ext hc]
      have hc := countR_len hc
      obtain ⟨r, hr, hx⟩ := map_ok h
      obtain ⟨q1, q2⟩ := many_stable (ring_stable lt) n l m a1 _ _ (by omega) hr
      simp only
      rw [q2]
      cases hx
      exact ⟨q1, rfl⟩
    · rename_i hk
      rw [if_neg hk]
      split at h
      · cases h
      rename_i n a1 hc
      rw [countR_ext hc]
      have hc := countR_len hc
      obtain ⟨r, hr, hx⟩ := map_ok h
      obtain ⟨q1, q2⟩ := many_stable (ih (level + 1) k) n l m a1 _ _ (by omega) hr
      simp only
      rw [q2]
      cases hx
      exact ⟨q1, rfl⟩
theorem geom_placed (deep : Int) : ∀ (f : Nat) (level home : Int), Placed fun l => geomR l deep f level home := by
  intro f
  induction f with
  | zero => intro level home l a e ha h; cases h; simp; omega
  | succ f ih =>
    intro level home l a e ha h
    simp only [geomR] at h
    split at h
    · rename_i hh; cases h; exact head_placed ha hh
    rename_i lt k hh
    have g1 := (head_stable (m := []) hh).1
    split at h
    · exact place_placed lt l _ _ g1 (map_err h)
    split at h
    · split at h
      · rename_i hc; cases h; have := countR_err hc; omega
      rename_i n a1 hc
      have := countR_len hc
      have := ptsR_err _ _ _ (map_err h)
      omega
    split at h
    · split at h
      · rename_i hc; cases h; have := countR_err hc; omega
      rename_i n a1 hc
      have := countR_len hc
      exact many_placed (ring_stable lt) (ring_placed lt) n l a1 e (by omega) (map_err h)
    · split at h
      · rename_i hc; cases h; have := countR_err hc; omega
      rename_i n a1 hc
      have := countR_len hc
      exact many_placed (geom_stable deep f (level + 1) k) (ih (level + 1) k) n l a1 e (by omega) (map_err h)

/-- what Frame writes, Parse reads -/
theorem parse_back (lt : Bool) (g : G) (hg : WellG 256 1 0 g) (hl : (encG [lt] g 0).length ≤ 65536) : ∃ bs, parseR (encG [lt] g 0) 256 65536 = .ok (g, bs) := by
  obtain ⟨bs, h⟩ := geom_back (l := encG [lt] g 0) (deep := 256) [lt] g 257 1 0 0 0 hg (by omega) ⟨[], by simp⟩
  refine ⟨bs, ?_⟩
  unfold parseR
  rw [if_neg (by omega), show min (256 : Int) 256 = 256 from rfl, h]
  simp only [Nat.zero_add]
  rw [if_neg (by omega)]
/-- other bytes that begin alike are no tree -/
theorem parse_more (lt : Bool) (g : G) (hg : WellG 256 1 0 g) (m : List UInt8) (hm : m ≠ []) (hl : (encG [lt] g 0 ++ m).length ≤ 65536) : ∃ e, parseR (encG [lt] g 0 ++ m) 256 65536 = .error e := by
  obtain ⟨bs, h⟩ := geom_back (l := encG [lt] g 0 ++ m) (deep := 256) [lt] g 257 1 0 0 0 hg (by omega) ⟨m, by simp⟩
  refine ⟨(((encG [lt] g 0).length : Int), 174), ?_⟩
  unfold parseR
  rw [if_neg (by omega), show min (256 : Int) 256 = 256 from rfl, h]
  simp only [Nat.zero_add]
  rw [if_pos (by have := List.length_pos_iff.2 hm; simp; omega)]
theorem parse_less (lt : Bool) (g : G) (hg : WellG 256 1 0 g) (k : Nat) (hk : k < (encG [lt] g 0).length) (hl : k ≤ 65536) : ∃ e, parseR ((encG [lt] g 0).take k) 256 65536 = .error e := by
  obtain ⟨bs, h⟩ := geom_back (l := encG [lt] g 0) (deep := 256) [lt] g 257 1 0 0 0 hg (by omega) ⟨[], by simp⟩
  have hlk : ((encG [lt] g 0).take k).length = k := by simp; omega
  unfold parseR
  rw [if_neg (by omega), show min (256 : Int) 256 = 256 from rfl]
  split
  · exact ⟨_, rfl⟩
  · rename_i r a h1
    have h2 := geom_stable 256 257 1 0 ((encG [lt] g 0).take k) ((encG [lt] g 0).drop k) 0 r a h1
    simp only [List.take_append_drop] at h2
    rw [h] at h2
    obtain ⟨q1, q2⟩ := h2
    cases q2
    omega
theorem parse_place {l : List UInt8} {d : Int} {e : PErr} (hl : l.length ≤ 65536) (h : parseR l d 65536 = .error e) : 0 ≤ e.1 ∧ e.1 ≤ (l.length : Int) := by
  unfold parseR at h
  rw [if_neg (by omega)] at h
  split at h
  · rename_i h1
    cases h
    exact geom_placed _ _ _ _ l 0 _ (Nat.zero_le _) h1
  · rename_i r a h1
    split at h
    · cases h; simp; omega
    · cases h

theorem wrapI_small {n : Int} (h : 0 ≤ n) (h2 : n ≤ 4611686018427387904) : IntKind.i64.wrap n = n := by
  simp only [IntKind.wrap, IntKind.bits, IntKind.signed]; simp; omega
/-- what record finds does not hang on what comes behind -/
theorem recR_ext {l m : List UInt8} {d : Int} (h : recR l d ≠ .wait) : recR (l ++ m) d = recR l d := by
  unfold recR at h ⊢
  by_cases h8 : l.length < 8
  · rw [if_pos h8] at h; exact absurd rfl h
  have e4 : wd (l ++ m) 4 4 false = wd l 4 4 false := wd_ext (by omega)
  have et : (l ++ m).take 4 = l.take 4 := List.take_append_of_le_length (by omega)
  rw [if_neg h8] at h ⊢
  rw [if_neg (by simp; omega), et, e4]
  by_cases hm : l.take 4 ≠ markB
  · rw [if_pos hm, if_pos hm]
  rw [if_neg hm] at h ⊢
  rw [if_neg hm]
  by_cases hb : 65536 < wd l 4 4 false
  · rw [if_pos hb, if_pos hb]
  rw [if_neg hb] at h ⊢
  rw [if_neg hb]
  by_cases hl : l.length < 8 + wd l 4 4 false + 4
  · rw [if_pos hl] at h; exact absurd rfl h
  rw [if_neg hl, if_neg (by simp; omega), wd_ext (by omega), List.take_append_of_le_length (by omega), List.drop_append_of_le_length (by omega), List.take_append_of_le_length (by simp; omega)]
theorem recR_bad {l : List UInt8} {d a c : Int} (h : recR l d = .bad a c) : 0 ≤ a ∧ a ≤ (l.length : Int) := by
  unfold recR at h
  split at h
  · cases h
  split at h
  · cases h; omega
  split at h
  · cases h; omega
  split at h
  · cases h
  split at h
  · cases h; omega
  split at h
  · rename_i e hp
    have hlen : ((l.drop 8).take (wd l 4 4 false)).length = wd l 4 4 false := by simp; omega
    have := parse_place (by omega) hp
    rw [hlen] at this
    rw [wrapI_small (by omega) (by omega)] at h
    cases h
    omega
  · cases h
/-- all that is read of bytes -/
def feed (d : Int) (l : List UInt8) : List G × Nat × List UInt8 × Option (Int × Int) := feedR d (l.length + 1) l
theorem feedR_fuel (d : Int) : ∀ (f k : Nat) (l : List UInt8), l.length < f → l.length < k → feedR d f l = feedR d k l := by
  intro f
  induction f with
  | zero => intro k l h; omega
  | succ f ih =>
    intro k l h1 h2
    obtain ⟨k, rfl⟩ : ∃ k', k = k' + 1 := ⟨k - 1, by omega⟩
    simp only [feedR]
    cases hr : recR l d with
    | wait => rfl
    | bad a c => rfl
    | got g n =>
      have := recR_got hr
      simp only
      rw [ih k (l.drop n) (by simp; omega) (by simp; omega)]
theorem feed_wait {d : Int} {l : List UInt8} (h : recR l d = .wait) : feed d l = ([], 0, l, none) := by unfold feed; simp only [feedR, h]
theorem feed_bad {d : Int} {l : List UInt8} {a c : Int} (h : recR l d = .bad a c) : feed d l = ([], 0, l, some (a, c)) := by unfold feed; simp only [feedR, h]
theorem feed_got {d : Int} {l : List UInt8} {g : G} {n : Nat} (h : recR l d = .got g n) : feed d l = (g :: (feed d (l.drop n)).1, n + (feed d (l.drop n)).2.1, (feed d (l.drop n)).2.2) := by
  have := recR_got h
  have e : feedR d l.length (l.drop n) = feed d (l.drop n) := feedR_fuel d _ _ _ (by simp; omega) (by simp)
  unfold feed at e ⊢
  simp only [feedR, h, e]
/-- what feed does on bytes in two pieces -/
theorem feed_join (d : Int) : ∀ (k : Nat) (l m : List UInt8), l.length ≤ k → feed d (l ++ m) = match (feed d l).2.2.2 with
    | some e => ((feed d l).1, (feed d l).2.1, (feed d l).2.2.1 ++ m, some e)
    | none => ((feed d l).1 ++ (feed d ((feed d l).2.2.1 ++ m)).1, (feed d l).2.1 + (feed d ((feed d l).2.2.1 ++ m)).2.1, (feed d ((feed d l).2.2.1 ++ m)).2.2) := by
  intro k
  induction k with
  | zero =>
    intro l m h
    have : l = [] := List.eq_nil_of_length_eq_zero (by omega)
    subst this
    rw [feed_wait (l := []) (d := d) (by unfold recR; rfl)]
    simp
  | succ k ih =>
    intro l m h
    cases hr : recR l d with
    | wait => rw [feed_wait hr]; simp
    | bad a c =>
      have h2 := recR_ext (m := m) (l := l) (d := d) (by rw [hr]; simp)
      rw [hr] at h2
      rw [feed_bad hr, feed_bad h2]
    | got g n =>
      have h2 := recR_ext (m := m) (l := l) (d := d) (by rw [hr]; simp)
      rw [hr] at h2
      have h3 := recR_got hr
      have h4 := ih (l.drop n) m (by simp; omega)
      rw [feed_got hr, feed_got h2, List.drop_append_of_le_length (by omega), h4]
      cases (feed d (l.drop n)).2.2.2 with
      | none => simp [Nat.add_assoc]
      | some e => simp
/-- the number of bytes that feed takes -/
theorem feed_len (d : Int) : ∀ (k : Nat) (l : List UInt8), l.length ≤ k → (feed d l).2.1 + (feed d l).2.2.1.length = l.length ∧ (feed d l).2.2.1 = l.drop (feed d l).2.1 ∧ 12 * (feed d l).1.length ≤ (feed d l).2.1 := by
  intro k
  induction k with
  | zero =>
    intro l h
    have : l = [] := List.eq_nil_of_length_eq_zero (by omega)
    subst this
    rw [feed_wait (l := []) (d := d) (by unfold recR; rfl)]
    simp
  | succ k ih =>
    intro l h
    cases hr : recR l d with
    | wait => rw [feed_wait hr]; simp
    | bad a c => rw [feed_bad hr]; simp
    | got g n =>
      have h3 := recR_got hr
      obtain ⟨i1, i2, i3⟩ := ih (l.drop n) (by simp; omega)
      rw [feed_got hr]
      simp only [List.length_cons]
      refine ⟨by simp at i1; omega, ?_, by omega⟩
      rw [← List.drop_drop]; exact i2
theorem feed_place (d : Int) : ∀ (k : Nat) (l : List UInt8), l.length ≤ k → ∀ a c, (feed d l).2.2.2 = some (a, c) → 0 ≤ a ∧ a ≤ ((feed d l).2.2.1.length : Int) := by
  intro k
  induction k with
  | zero =>
    intro l h
    have : l = [] := List.eq_nil_of_length_eq_zero (by omega)
    subst this
    rw [feed_wait (l := []) (d := d) (by unfold recR; rfl)]
    simp
  | succ k ih =>
    intro l h a c
    cases hr : recR l d with
    | wait => rw [feed_wait hr]; simp
    | bad x y => rw [feed_bad hr]; rintro ⟨⟩; exact recR_bad hr
    | got g n =>
      have h3 := recR_got hr
      rw [feed_got hr]
      exact ih (l.drop n) (by simp; omega) a c

theorem headB_length (wb : List UInt8) : (headB wb).length = 8 + wb.length := by simp [headB, markB, encB_length]; omega
theorem frameB_length (wb : List UInt8) : (frameB wb).length = 12 + wb.length := by simp [frameB, headB_length, encB_length]; omega
theorem sumR_lt (l : List UInt8) : sumR l < 4294967296 := by unfold sumR; omega
/-- the parts of a record that stands at the head of bytes: its mark, length, bytes and sum -/
theorem frame_parts (wb m : List UInt8) (hw : wb.length ≤ 65536) : (frameB wb ++ m).take 4 = markB ∧ wd (frameB wb ++ m) 4 4 false = wb.length ∧ wd (frameB wb ++ m) (8 + wb.length) 4 false = sumR (headB wb) ∧
    (frameB wb ++ m).take (8 + wb.length) = headB wb ∧ ((frameB wb ++ m).drop 8).take wb.length = wb := by
  have s0 : Seg (frameB wb ++ m) 0 (headB wb ++ encB 4 (sumR (headB wb)) false) := ⟨m, rfl⟩
  have s1 : Seg (frameB wb ++ m) (8 + wb.length) (encB 4 (sumR (headB wb)) false) := by
    have := s0.right
    rw [headB_length] at this
    simpa using this
  have s2 : Seg (frameB wb ++ m) 0 (markB ++ (encB 4 wb.length false ++ wb)) := by
    have := s0.left
    rw [headB, List.append_assoc] at this
    exact this
  have s3 : Seg (frameB wb ++ m) 4 (encB 4 wb.length false ++ wb) := by simpa [markB] using s2.right
  have s4 : Seg (frameB wb ++ m) 8 wb := by simpa [encB_length] using s3.right
  refine ⟨by simp [frameB, headB, markB], s3.left.wd (by simp; omega), s1.wd (by simpa using sumR_lt _), ?_, ?_⟩
  · unfold frameB
    rw [List.append_assoc, ← headB_length, List.take_left']
    rfl
  · obtain ⟨p, hp⟩ := s4
    rw [hp, List.take_left' rfl]
theorem rec_frame (lt : Bool) (g : G) (hg : WellG 256 1 0 g) (hl : (encG [lt] g 0).length ≤ 65536) (m : List UInt8) : recR (frameB (encG [lt] g 0) ++ m) 256 = .got g (frameB (encG [lt] g 0)).length := by
  obtain ⟨bs, hp⟩ := parse_back lt g hg hl
  generalize hwb : encG [lt] g 0 = wb at *
  obtain ⟨p1, p2, p3, p4, p5⟩ := frame_parts wb m hl
  have hfl := frameB_length wb
  unfold recR
  rw [if_neg (by simp; omega), p1, if_neg (by simp), p2, if_neg (by omega), if_neg (by simp; omega), p3, p4, if_neg (by simp), p5, hp]
  simp only
  rw [show 8 + wb.length + 4 = (frameB wb).length by omega]
/-- records one behind the other, and what comes behind them -/
theorem feed_frames : ∀ (l : List (Bool × G)) (m : List UInt8), (∀ x ∈ l, WellG 256 1 0 x.2 ∧ (encG [x.1] x.2 0).length ≤ 65536) →
    feed 256 (l.flatMap (fun x => frameB (encG [x.1] x.2 0)) ++ m) = (l.map (·.2) ++ (feed 256 m).1, (l.flatMap (fun x => frameB (encG [x.1] x.2 0))).length + (feed 256 m).2.1, (feed 256 m).2.2)
  | [], m, _ => by simp
  | x :: l, m, h => by
    obtain ⟨h1, h2⟩ := h x (by simp)
    have h3 := feed_frames l m (fun y hy => h y (by simp [hy]))
    rw [List.flatMap_cons, List.append_assoc, feed_got (rec_frame x.1 x.2 h1 h2 _), List.drop_left, h3]
    simp [Nat.add_assoc]
theorem feed_nil (d : Int) : feed d [] = ([], 0, [], none) := feed_wait (by unfold recR; rfl)

theorem fold_inj : ∀ (l m : List UInt8) (v u : Nat), l.length = m.length → l.foldl (fun v c => 256 * v + c.toNat) v = m.foldl (fun v c => 256 * v + c.toNat) u → v = u ∧ l = m
  | [], [], v, u, _, h => ⟨h, rfl⟩
  | c :: l, d :: m, v, u, hl, h => by
    obtain ⟨h1, h2⟩ := fold_inj l m (256 * v + c.toNat) (256 * u + d.toNat) (by simpa using hl) h
    have := c.toNat_lt
    have := d.toNat_lt
    have h3 : c.toNat = d.toNat := by omega
    exact ⟨by omega, by rw [h2, UInt8.toNat_inj.1 h3]⟩
theorem dec_inj {l m : List UInt8} (hl : l.length = m.length) (h : decB l false = decB m false) : l = m := by
  unfold decB at h
  simp only [Bool.false_eq_true, if_false] at h
  exact (fold_inj l m 0 0 hl h).2
theorem wd_set_in {l : List UInt8} {a k n : Nat} {x : UInt8} (h1 : a ≤ k) (h2 : k < a + n) (h3 : a + n ≤ l.length) (hx : x ≠ l[k]'(by omega)) : wd (l.set k x) a n false ≠ wd l a n false := by
  intro h
  unfold wd at h
  have := dec_inj (by simp) h
  have := congrArg (·[k - a]?) this
  simp only [List.getElem?_take, List.getElem?_drop] at this
  rw [if_pos (by omega), if_pos (by omega), show a + (k - a) = k by omega, List.getElem?_eq_getElem (by simp; omega), List.getElem?_eq_getElem (by omega)] at this
  simp at this
  exact hx this
theorem wd_set_out {l : List UInt8} {a k n : Nat} {x : UInt8} (h : k < a ∨ a + n ≤ k) : wd (l.set k x) a n false = wd l a n false := by
  unfold wd
  congr 1
  apply List.ext_getElem?
  intro i
  simp only [List.getElem?_take, List.getElem?_drop]
  split
  · rw [List.getElem?_set_ne (by omega)]
  · rfl
/-- a record in which one byte was changed, and whatever behind it -/
theorem rec_hurt (lt : Bool) (g : G) (hg : WellG 256 1 0 g) (hl : (encG [lt] g 0).length ≤ 65536) (m : List UInt8) (k : Nat) (x : UInt8) (hk : k < (frameB (encG [lt] g 0)).length) (f : List UInt8) (hfm : frameB (encG [lt] g 0) ++ m = f)
    (hx : f[k]? ≠ some x) :
    (8 ≤ k → recR (f.set k x) 256 = .bad (((frameB (encG [lt] g 0)).length : Int) - 4) 271) ∧
    (k < 4 → recR (f.set k x) 256 = .bad 0 270) ∧
    (4 ≤ k → k < 8 → recR (f.set k x) 256 = .wait ∨ ∃ a e, recR (f.set k x) 256 = .bad a e ∧ 4 ≤ a ∧ a ≤ (f.length : Int)) := by
  have hless := parse_less lt g hg
  have hmore := parse_more lt g hg
  generalize hwb : encG [lt] g 0 = wb at *
  obtain ⟨p1, p2, p3, p4, p5⟩ := frame_parts wb m hl
  have hfl := frameB_length wb
  rw [hfm] at p1 p2 p3 p4 p5
  have hflen0 : f.length = 12 + wb.length + m.length := by rw [← hfm, List.length_append]; omega
  have hkf : k < f.length := by omega
  have hx : x ≠ f[k]'hkf := fun e => hx (by rw [List.getElem?_eq_getElem hkf, e])
  have hflen : f.length = 12 + wb.length + m.length := by rw [← hfm, List.length_append]; omega
  have hcl : (f.set k x).length = 12 + wb.length + m.length := by rw [List.length_set]; omega
  have hhl := headB_length wb
  refine ⟨fun h8 => ?_, fun h4 => ?_, fun h4 h8 => ?_⟩
  · have t4 : (f.set k x).take 4 = markB := by rw [List.take_set_of_le (by omega), p1]
    have w4 : wd (f.set k x) 4 4 false = wb.length := by rw [wd_set_out (by omega), p2]
    unfold recR
    rw [if_neg (by omega), t4, if_neg (by simp), w4, if_neg (by omega), if_neg (by omega), if_pos ?_]
    · congr 1; omega
    by_cases hin : k < 8 + wb.length
    · rw [wd_set_out (by omega), p3]
      have e : (f.set k x).take (8 + wb.length) = (headB wb).set k x := by rw [← p4, List.take_set]
      rw [e]
      refine (sumR_set _ k (by omega) x ?_).symm
      intro he
      refine hx (he.trans ?_)
      have : (headB wb)[k]? = f[k]? := by rw [← p4, List.getElem?_take, if_pos hin]
      rw [List.getElem?_eq_getElem (by omega), List.getElem?_eq_getElem (by omega)] at this
      exact Option.some.inj this
    · rw [List.take_set_of_le (by omega), p4, ← p3]
      exact wd_set_in (by omega) (by omega) (by omega) hx
  · have t4 : (f.set k x).take 4 ≠ markB := by
      rw [List.take_set, p1]
      intro he
      have this : (markB.set k x)[k]? = markB[k]? := congrArg (·[k]?) he
      have h1 : markB[k]? = f[k]? := by rw [← p1, List.getElem?_take, if_pos h4]
      rw [h1, List.getElem?_set_self (by simpa [markB] using h4), List.getElem?_eq_getElem (by omega)] at this
      exact hx (Option.some.inj this)
    unfold recR
    rw [if_neg (by omega), if_pos t4]
  · have t4 : (f.set k x).take 4 = markB := by rw [List.take_set_of_le (by omega), p1]
    have w4 : wd (f.set k x) 4 4 false ≠ wb.length := by rw [← p2]; exact wd_set_in (by omega) (by omega) (by omega) hx
    unfold recR
    rw [if_neg (by omega), t4, if_neg (by simp)]
    generalize wd (f.set k x) 4 4 false = n at *
    by_cases h1 : 65536 < n
    · rw [if_pos h1]
      exact .inr ⟨_, _, rfl, by omega, by omega⟩
    rw [if_neg h1]
    by_cases h2 : (f.set k x).length < 8 + n + 4
    · rw [if_pos h2]; exact .inl rfl
    rw [if_neg h2]
    by_cases h3 : wd (f.set k x) (8 + n) 4 false ≠ sumR ((f.set k x).take (8 + n))
    · rw [if_pos h3]
      exact .inr ⟨_, _, rfl, by omega, by omega⟩
    rw [if_neg h3]
    have hd : (f.set k x).drop 8 = wb ++ (f.drop 8).drop wb.length := by
      rw [List.drop_set_of_lt (by omega)]
      conv => rhs; lhs; rw [← p5]
      rw [List.take_append_drop]
    have hlen : (((f.set k x).drop 8).take n).length = n := by rw [List.length_take, List.length_drop]; omega
    have herr : ∃ e, parseR (((f.set k x).drop 8).take n) 256 65536 = .error e := by
      rcases Nat.lt_or_gt_of_ne w4 with h4 | h4
      · rw [hd, List.take_append_of_le_length (by omega)]
        exact hless n h4 (by omega)
      · have e : ((f.set k x).drop 8).take n = wb ++ ((f.drop 8).drop wb.length).take (n - wb.length) := by
          rw [hd, List.take_append, List.take_of_length_le (by omega)]
        rw [e] at hlen ⊢
        exact hmore _ (by intro h; rw [h] at hlen; simp at hlen; omega) (by omega)
    obtain ⟨e, he⟩ := herr
    have hpl := parse_place (by omega) he
    rw [he]
    simp only
    rw [hlen] at hpl
    rw [wrapI_small (by omega) (by omega)]
    exact .inr ⟨_, _, rfl, by omega, by omega⟩
end Go.Proofs.YtlffgepnhhnadaaDoor.Pl
