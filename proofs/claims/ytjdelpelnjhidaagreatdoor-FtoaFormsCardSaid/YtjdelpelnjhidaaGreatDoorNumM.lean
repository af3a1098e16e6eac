/- Words: stores, shifts, products, sums, quotients by one word, in plain Lean. -/
import Derived.Test.YtjdelpelnjhidaaGreatDoorNumQ
namespace Go.Proofs.YtjdelpelnjhidaaGreatDoor.Pl

theorem val_set {l : List Nat} {k x : Nat} (y : Nat) (h : l[k]? = some x) : val (l.set k y) + 18446744073709551616 ^ k * x = val l + 18446744073709551616 ^ k * y := by
  induction l generalizing k with
  | nil => simp at h
  | cons a l ih =>
    cases k with
    | zero => simp at h; subst h; simp [val]; omega
    | succ k =>
      have := ih (k := k) (by simpa using h)
      simp only [List.set_cons_succ, val, Nat.pow_succ]
      grind
theorem set_mid {α : Type} (a b : List α) (x y : α) : (a ++ x :: b).set a.length y = a ++ y :: b := by
  induction a with
  | nil => rfl
  | cons z a ih => simp [ih]
/-- a prefix that is filled -/
theorem set_fill (a : List Nat) (m v i : Nat) (hi : i = a.length) : (a ++ List.replicate (m + 1) 0).set i v = (a ++ [v]) ++ List.replicate m 0 := by
  subst hi
  rw [List.replicate_succ, set_mid, List.append_assoc]; rfl
theorem get_fill (a : List Nat) (m i : Nat) (hi : i = a.length) : (a ++ List.replicate (m + 1) 0)[i]? = some 0 := by
  subst hi
  rw [List.getElem?_append_right (Nat.le_refl _), Nat.sub_self, List.replicate_succ]; rfl
/-- a list that is filled from behind -/
theorem set_back (b : List Nat) (i v : Nat) : (List.replicate (i + 1) 0 ++ b).set i v = List.replicate i 0 ++ v :: b := by
  have h : List.replicate (i + 1) 0 ++ b = List.replicate i 0 ++ 0 :: b := by
    rw [List.replicate_succ', List.append_assoc]; rfl
  rw [h]
  have := set_mid (List.replicate i 0) b 0 v
  rw [List.length_replicate] at this
  exact this
theorem take_succ_some {l : List Nat} {i x : Nat} (h : l[i]? = some x) : l.take (i + 1) = l.take i ++ [x] := by rw [List.take_add_one, h]; rfl
theorem drop_some {l : List Nat} {i x : Nat} (h : l[i]? = some x) : l.drop i = x :: l.drop (i + 1) := by
  obtain ⟨hi, rfl⟩ := List.getElem?_eq_some_iff.1 h
  exact List.drop_eq_getElem_cons hi
theorem val_app_replicate (a : List Nat) (k : Nat) : val (a ++ List.replicate k 0) = val a := by rw [val_append, val_replicate]; omega

/-- a shift to the left, by fewer than 64 bits, from below -/
def shlL (n : Nat) : Nat → List Nat → List Nat
  | _, [] => []
  | c, x :: l => (x * 2 ^ n % 18446744073709551616 + c) :: shlL n (x / 2 ^ (64 - n)) l
def shlC (n : Nat) : Nat → List Nat → Nat
  | c, [] => c
  | _, x :: l => shlC n (x / 2 ^ (64 - n)) l
theorem two64 {n : Nat} (hn : n ≤ 64) : 2 ^ (64 - n) * 2 ^ n = 18446744073709551616 := by
  rw [← Nat.pow_add, show 64 - n + n = 64 by omega]
theorem shl_word (x : Nat) {n : Nat} (hn : n ≤ 64) : x * 2 ^ n % 18446744073709551616 + 18446744073709551616 * (x / 2 ^ (64 - n)) = x * 2 ^ n := by
  have h1 : x * 2 ^ n / 18446744073709551616 = x / 2 ^ (64 - n) := by
    rw [← two64 hn, Nat.mul_div_mul_right _ _ (Nat.two_pow_pos _)]
  rw [← h1, Nat.mod_add_div]
theorem shl_mod_le (x : Nat) {n : Nat} (hn : n ≤ 64) : x * 2 ^ n % 18446744073709551616 + 2 ^ n ≤ 18446744073709551616 := by
  rw [← two64 hn, Nat.mul_mod_mul_right]
  have h1 : x % 2 ^ (64 - n) + 1 ≤ 2 ^ (64 - n) := Nat.mod_lt _ (Nat.two_pow_pos _)
  have h2 := Nat.mul_le_mul_right (2 ^ n) h1
  rw [Nat.add_mul, Nat.one_mul] at h2
  exact h2
theorem div_lt64 {x n : Nat} (hn : n ≤ 64) (hx : x < 18446744073709551616) : x / 2 ^ (64 - n) < 2 ^ n := by
  refine (Nat.div_lt_iff_lt_mul (Nat.two_pow_pos _)).2 ?_
  rw [Nat.mul_comm, two64 hn]; exact hx
theorem shlL_length (n : Nat) : ∀ (c : Nat) (l : List Nat), (shlL n c l).length = l.length
  | _, [] => rfl
  | _, _ :: l => by rw [shlL, List.length_cons, List.length_cons, shlL_length n _ l]
theorem shlL_append (n : Nat) : ∀ (c : Nat) (a b : List Nat), shlL n c (a ++ b) = shlL n c a ++ shlL n (shlC n c a) b
  | _, [], _ => rfl
  | c, x :: a, b => by rw [List.cons_append, shlL, shlL, shlC, List.cons_append, shlL_append n _ a b]
theorem shlC_append (n : Nat) : ∀ (c : Nat) (a b : List Nat), shlC n c (a ++ b) = shlC n (shlC n c a) b
  | _, [], _ => rfl
  | c, x :: a, b => by rw [List.cons_append, shlC, shlC, shlC_append n _ a b]
theorem shlL_val {n : Nat} (hn : n ≤ 64) : ∀ (c : Nat) (l : List Nat), val (shlL n c l) + 18446744073709551616 ^ l.length * shlC n c l = val l * 2 ^ n + c
  | c, [] => by simp [shlL, shlC, val]
  | c, x :: l => by
    have ih := shlL_val hn (x / 2 ^ (64 - n)) l
    have h1 := shl_word x hn
    rw [shlL, shlC, val, val, List.length_cons, Nat.pow_succ]
    generalize val (shlL n (x / 2 ^ (64 - n)) l) = A at *
    generalize shlC n (x / 2 ^ (64 - n)) l = C at *
    generalize x / 2 ^ (64 - n) = q at *
    generalize x * 2 ^ n % 18446744073709551616 = r at *
    generalize 18446744073709551616 ^ l.length = P at *
    have h2 : (x + 18446744073709551616 * val l) * 2 ^ n = x * 2 ^ n + 18446744073709551616 * (val l * 2 ^ n) := by grind
    have h3 : P * 18446744073709551616 * C = 18446744073709551616 * (P * C) := by grind
    rw [h2, h3]
    omega
theorem shlC_lt {n : Nat} (hn : n ≤ 64) : ∀ {c : Nat} {l : List Nat}, c < 2 ^ n → W64 l → shlC n c l < 2 ^ n
  | c, [], hc, _ => hc
  | c, x :: l, _, h => by rw [shlC]; exact shlC_lt hn (div_lt64 hn h.head) h.tail
theorem shlL_w {n : Nat} (hn : n ≤ 64) : ∀ {c : Nat} {l : List Nat}, c < 2 ^ n → W64 l → W64 (shlL n c l)
  | c, [], _, _ => W64.nil
  | c, x :: l, hc, h => W64.cons (by have := shl_mod_le x hn; omega) (shlL_w hn (div_lt64 hn h.head) h.tail)
theorem shlL_step {n i x : Nat} {l : List Nat} (h : l[i]? = some x) : shlL n 0 (l.take (i + 1)) = shlL n 0 (l.take i) ++ [x * 2 ^ n % 18446744073709551616 + shlC n 0 (l.take i)] ∧ shlC n 0 (l.take (i + 1)) = x / 2 ^ (64 - n) := by
  rw [take_succ_some h, shlL_append, shlC_append]
  exact ⟨rfl, rfl⟩
/-- each word of a shifted list, from the list's own -/
theorem shlL_get (n : Nat) : ∀ (c : Nat) (l : List Nat) (i x : Nat), l[i]? = some x → (shlL n c l)[i]? = some (x * 2 ^ n % 18446744073709551616 + (if i = 0 then c else l.getD (i - 1) 0 / 2 ^ (64 - n)))
  | _, [], i, x, h => by simp at h
  | c, y :: l, 0, x, h => by simp at h; subst h; simp [shlL]
  | c, y :: l, i + 1, x, h => by
    rw [shlL, List.getElem?_cons_succ, shlL_get n _ l i x (by simpa using h)]
    cases i <;> simp
/-- a shift to the right, by fewer than 64 bits -/
def shrL (n : Nat) : List Nat → List Nat
  | [] => []
  | x :: l => (x / 2 ^ n + l.headD 0 * 2 ^ (64 - n) % 18446744073709551616) :: shrL n l
theorem shrL_length (n : Nat) : ∀ (l : List Nat), (shrL n l).length = l.length
  | [] => rfl
  | _ :: l => by rw [shrL, List.length_cons, List.length_cons, shrL_length n l]
theorem shr_word {n : Nat} (h : Nat) (hn : n ≤ 64) : h * 2 ^ (64 - n) % 18446744073709551616 = 2 ^ (64 - n) * (h % 2 ^ n) := by
  conv => lhs; rw [← two64 hn, Nat.mul_comm h, Nat.mul_mod_mul_left]
theorem shrL_val {n : Nat} (hn : n ≤ 64) : ∀ (l : List Nat), val (shrL n l) = val l / 2 ^ n
  | [] => by simp [shrL, val]
  | x :: l => by
    have ih := shrL_val hn l
    rw [shrL, val, val, ih, shr_word _ hn]
    have hm : l.headD 0 % 2 ^ n = val l % 2 ^ n := by
      cases l with
      | nil => rfl
      | cons y l =>
        rw [List.headD_cons, val, ← two64 hn, Nat.mul_comm (2 ^ (64 - n)) (2 ^ n), Nat.mul_assoc, Nat.add_mul_mod_self_left]
    rw [hm]
    have h1 : (x + 18446744073709551616 * val l) / 2 ^ n = x / 2 ^ n + 2 ^ (64 - n) * val l := by
      rw [← two64 hn, Nat.mul_comm (2 ^ (64 - n)) (2 ^ n), Nat.mul_assoc, Nat.add_mul_div_left _ _ (Nat.two_pow_pos n)]
    rw [h1]
    have h2 := Nat.div_add_mod (val l) (2 ^ n)
    have h3 : 18446744073709551616 * (val l / 2 ^ n) = 2 ^ (64 - n) * (2 ^ n * (val l / 2 ^ n)) := by rw [← Nat.mul_assoc, two64 hn]
    rw [h3]
    conv => rhs; rw [← h2]
    rw [Nat.mul_add]
    omega
theorem shrL_w {n : Nat} (hn : n ≤ 64) : ∀ {l : List Nat}, W64 l → W64 (shrL n l)
  | [], _ => W64.nil
  | x :: l, h => by
    refine W64.cons ?_ (shrL_w hn h.tail)
    rw [shr_word _ hn]
    have h1 : x / 2 ^ n < 2 ^ (64 - n) := by
      refine (Nat.div_lt_iff_lt_mul (Nat.two_pow_pos _)).2 ?_
      rw [two64 hn]; exact h.head
    have h2 : l.headD 0 % 2 ^ n + 1 ≤ 2 ^ n := Nat.mod_lt _ (Nat.two_pow_pos _)
    have h3 := Nat.mul_le_mul_left (2 ^ (64 - n)) h2
    rw [two64 hn, Nat.mul_add, Nat.mul_one] at h3
    omega
theorem shrL_drop {n i x : Nat} {l : List Nat} (h : l[i]? = some x) : shrL n (l.drop i) = (x / 2 ^ n + (l.drop (i + 1)).headD 0 * 2 ^ (64 - n) % 18446744073709551616) :: shrL n (l.drop (i + 1)) := by
  rw [drop_some h]; rfl

/-- a step of a product: a row's word, and what is carried -/
theorem mul_word {a b o c hi lo s1 k1 s2 k2 : Nat} (h1 : 18446744073709551616 * hi + lo = a * b) (h2 : s1 + 18446744073709551616 * k1 = lo + o) (h3 : s2 + 18446744073709551616 * k2 = s1 + c) : s2 + 18446744073709551616 * (hi + k1 + k2) = a * b + o + c := by omega
theorem mul_carry {a b o c s q : Nat} (ha : a < 18446744073709551616) (hb : b < 18446744073709551616) (ho : o < 18446744073709551616) (hc : c < 18446744073709551616) (h : s + 18446744073709551616 * q = a * b + o + c) : q < 18446744073709551616 := by
  have h1 : a * b ≤ 18446744073709551615 * 18446744073709551615 := Nat.mul_le_mul (by omega) (by omega)
  omega
/-- out, while a row is laid: what it is with the carry -/
theorem mul_step {out : List Nat} {i j o s c c' a b V Y : Nat} (hg : out[i + j]? = some o) (hv : val out + 18446744073709551616 ^ (i + j) * c = V + a * 18446744073709551616 ^ i * Y) (hs : s + 18446744073709551616 * c' = a * b + o + c) :
    val (out.set (i + j) s) + 18446744073709551616 ^ (i + (j + 1)) * c' = V + a * 18446744073709551616 ^ i * (Y + 18446744073709551616 ^ j * b) := by
  have h1 := val_set s hg
  have h2 : 18446744073709551616 ^ (i + (j + 1)) * c' = 18446744073709551616 ^ (i + j) * (18446744073709551616 * c') := by rw [show i + (j + 1) = (i + j) + 1 by omega, Nat.pow_succ]; grind
  have h3 : a * 18446744073709551616 ^ i * (Y + 18446744073709551616 ^ j * b) = a * 18446744073709551616 ^ i * Y + 18446744073709551616 ^ (i + j) * (a * b) := by rw [Nat.pow_add]; grind
  have h4 : 18446744073709551616 ^ (i + j) * s + 18446744073709551616 ^ (i + j) * (18446744073709551616 * c') = 18446744073709551616 ^ (i + j) * (a * b) + 18446744073709551616 ^ (i + j) * o + 18446744073709551616 ^ (i + j) * c := by
    rw [← Nat.mul_add, hs]; grind
  rw [h2, h3]
  omega
/-- a step of a quotient by one word -/
theorem small_step {d q r rest x V X : Nat} (h : X = V * d + rest) (hd : 18446744073709551616 * rest + x = q * d + r) : x + 18446744073709551616 * X = (q + 18446744073709551616 * V) * d + r := by
  rw [h, Nat.add_mul, Nat.mul_assoc]
  omega
end Go.Proofs.YtjdelpelnjhidaaGreatDoor.Pl
