/- The reader on longer bytes, and where its errors are: plain Lean. -/
import Derived.Test.YtlffgepnhhnadaaDoorBack
namespace Go.Proofs.YtlffgepnhhnadaaDoor.Pl
open Go.RowKit

/-- what a reading function says of longer bytes, and where its errors are -/
def Stable {α : Type} (F : List UInt8 → Nat → Except PErr (α × Nat)) : Prop := ∀ l m a x a', F l a = .ok (x, a') → a' ≤ l.length ∧ F (l ++ m) a = .ok (x, a')
def Placed {α : Type} (F : List UInt8 → Nat → Except PErr (α × Nat)) : Prop := ∀ l a e, a ≤ l.length → F l a = .error e → 0 ≤ e.1 ∧ e.1 ≤ (l.length : Int)
theorem wd_ext {l m : List UInt8} {a n : Nat} {lt : Bool} (h : a + n ≤ l.length) : wd (l ++ m) a n lt = wd l a n lt := by
  unfold wd
  rw [List.drop_append_of_le_length (by omega), List.take_append_of_le_length (by simp; omega)]
theorem many_stable {α : Type} {F : List UInt8 → Nat → Except PErr (α × Nat)} (h : Stable F) (n : Nat) : ∀ l m a x a', a ≤ l.length → manyR (F l) n a = .ok (x, a') → a' ≤ l.length ∧ manyR (F (l ++ m)) n a = .ok (x, a') := by
  induction n with
  | zero => intro l m a x a' ha h0; simp [manyR] at h0 ⊢; obtain ⟨rfl, rfl⟩ := h0; simp [ha]
  | succ n ih =>
    intro l m a x a' ha h0
    simp only [manyR] at h0 ⊢
    split at h0
    · cases h0
    rename_i y a1 h1
    split at h0
    · cases h0
    rename_i ys a2 h2
    cases h0
    obtain ⟨k1, k2⟩ := h l m a y a1 h1
    obtain ⟨k3, k4⟩ := ih l m a1 ys _ k1 h2
    rw [k2]; simp only [k4]
    exact ⟨k3, trivial⟩
theorem many_placed {α : Type} {F : List UInt8 → Nat → Except PErr (α × Nat)} (h : Stable F) (hp : Placed F) (n : Nat) : ∀ l a e, a ≤ l.length → manyR (F l) n a = .error e → 0 ≤ e.1 ∧ e.1 ≤ (l.length : Int) := by
  induction n with
  | zero => intro l a e ha h0; simp [manyR] at h0
  | succ n ih =>
    intro l a e ha h0
    simp only [manyR] at h0
    split at h0
    · rename_i e1 h1
      cases h0
      exact hp l a _ ha h1
    rename_i y a1 h1
    split at h0
    · rename_i e1 h2
      cases h0
      exact ih l a1 _ (h l [] a y a1 h1).1 h2
    · cases h0
theorem numR_ext {l m : List UInt8} {a : Nat} {lt : Bool} (h : a + 8 ≤ l.length) : numR (l ++ m) lt a = numR l lt a := by unfold numR; rw [wd_ext h]
theorem ptR_ext {l m : List UInt8} {a : Nat} {lt : Bool} (h : a + 16 ≤ l.length) : ptR (l ++ m) lt a = ptR l lt a := by unfold ptR; rw [numR_ext (by omega), numR_ext (by omega)]
theorem ptsR_ext {l m : List UInt8} {lt : Bool} : ∀ (n a : Nat), a + 16 * n ≤ l.length → ptsR (l ++ m) lt n a = ptsR l lt n a
  | 0, _, _ => rfl
  | n + 1, a, h => by
    have h1 := ptsR_ext (l := l) (m := m) (lt := lt) n (a + 16) (by omega)
    unfold ptsR at h1 ⊢
    simp only [manyR]
    rw [ptR_ext (l := l) (by omega)]
    cases ptR l lt a with
    | error e => rfl
    | ok p => simp only [Except.map] at h1 ⊢; rw [h1]
theorem ptsR_at {l : List UInt8} {lt : Bool} : ∀ (n a : Nat) (xs : List Pt) (a' : Nat), ptsR l lt n a = .ok (xs, a') → a' = a + 16 * n
  | 0, a, xs, a', h => by simp [ptsR, manyR] at h; omega
  | n + 1, a, xs, a', h => by
    unfold ptsR at h
    simp only [manyR] at h
    split at h
    · cases h
    rename_i y a1 h1
    obtain ⟨p, _, hp⟩ := map_ok h1
    cases hp
    split at h
    · cases h
    rename_i ys a2 h2
    cases h
    have := ptsR_at n _ _ _ h2
    omega
theorem numR_err {l : List UInt8} {lt : Bool} {a : Nat} {e : PErr} (h : numR l lt a = .error e) : e.1 = a := by
  unfold numR at h; split at h <;> cases h; rfl
theorem ptR_err {l : List UInt8} {lt : Bool} {a : Nat} {e : PErr} (h : ptR l lt a = .error e) : (a : Int) ≤ e.1 ∧ e.1 ≤ a + 8 := by
  unfold ptR at h
  split at h
  · rename_i h1; cases h; have := numR_err h1; omega
  split at h
  · rename_i h1; cases h; have := numR_err h1; omega
  · cases h
theorem ptsR_err {l : List UInt8} {lt : Bool} : ∀ (n a : Nat) (e : PErr), ptsR l lt n a = .error e → (a : Int) ≤ e.1 ∧ e.1 ≤ a + 16 * n
  | 0, a, e, h => by simp [ptsR, manyR] at h
  | n + 1, a, e, h => by
    unfold ptsR at h
    simp only [manyR] at h
    split at h
    · rename_i e1 h1
      cases h
      cases hp : ptR l lt a with
      | error e2 =>
        rw [hp] at h1; cases h1
        have := ptR_err hp; omega
      | ok p => rw [hp] at h1; cases h1
    rename_i y a1 h1
    obtain ⟨p, _, hp⟩ := map_ok h1
    cases hp
    split at h
    · rename_i e1 h2
      cases h
      have := ptsR_err n _ _ h2
      omega
    · cases h
theorem countR_ext {l m : List UInt8} {lt : Bool} {least a n a' : Nat} (h : countR l lt least a = .ok (n, a')) : countR (l ++ m) lt least a = .ok (n, a') := by
  have hl := countR_len h
  have hn : wd l a 4 lt = n := by
    unfold countR at h
    split at h
    · cases h
    split at h
    · cases h
    cases h; rfl
  unfold countR
  rw [wd_ext (by omega), hn, List.length_append, if_neg (by omega), if_neg (by omega), hl.1]
theorem countR_err {l : List UInt8} {lt : Bool} {least a : Nat} {e : PErr} (h : countR l lt least a = .error e) : e.1 = a := by
  unfold countR at h
  split at h
  · cases h; rfl
  split at h
  · cases h; rfl
  · cases h
theorem ring_stable (lt : Bool) : Stable fun l => ringR l lt := by
  intro l m a x a' h
  simp only [ringR] at h ⊢
  split at h
  · cases h
  split at h
  · cases h
  split at h
  · cases h
  have h1 := ptsR_at _ _ _ _ h
  refine ⟨by omega, ?_⟩
  rw [wd_ext (by omega), List.length_append, if_neg (by omega), if_neg (by omega), if_neg (by omega), ptsR_ext _ _ (by omega)]
  exact h
theorem ring_placed (lt : Bool) : Placed fun l => ringR l lt := by
  intro l a e ha h
  simp only [ringR] at h
  split at h
  · cases h; simp; omega
  split at h
  · cases h; simp; omega
  split at h
  · cases h; simp; omega
  have := ptsR_err _ _ _ h
  omega
theorem place_stable (lt : Bool) : Stable fun l => placeR l lt := by
  intro l m a x a' h
  simp only [placeR] at h ⊢
  split at h
  · cases h
  split at h
  · cases h
  have e1 : wd (l ++ m) a 8 lt = wd l a 8 lt := wd_ext (by omega)
  have e2 : wd (l ++ m) (a + 8) 8 lt = wd l (a + 8) 8 lt := wd_ext (by omega)
  rw [e1, e2, List.length_append, if_neg (by omega), if_neg (by omega)]
  refine ⟨?_, h⟩
  repeat' split at h
  all_goals first | (cases h; done) | skip
  all_goals (simp only [Except.ok.injEq, Prod.mk.injEq] at h; omega)
theorem place_placed (lt : Bool) : Placed fun l => placeR l lt := by
  intro l a e ha h
  simp only [placeR] at h
  repeat' split at h
  all_goals first | (cases h; done) | skip
  all_goals (cases h; simp; omega)
theorem head_stable {l m : List UInt8} {deep level home : Int} {a : Nat} {x : Bool × Nat} (h : headR l deep a level home = .ok x) : a + 5 ≤ l.length ∧ headR (l ++ m) deep a level home = .ok x := by
  unfold headR at h ⊢
  split at h
  · cases h
  rename_i h0
  have hg : (l ++ m)[a]'(by simp; omega) = l[a]'(by omega) := List.getElem_append_left (by omega)
  rw [dif_neg (by simp; omega)]
  rw [hg]
  split at h
  · cases h
  split at h
  · cases h
  rw [wd_ext (by omega), List.length_append, if_neg (by assumption), if_neg (by omega)]
  exact ⟨by omega, h⟩
theorem head_placed {l : List UInt8} {deep level home : Int} {a : Nat} {e : PErr} (ha : a ≤ l.length) (h : headR l deep a level home = .error e) : 0 ≤ e.1 ∧ e.1 ≤ (l.length : Int) := by
  unfold headR at h
  repeat' split at h
  all_goals first | (cases h; done) | skip
  all_goals (cases h; simp; omega)
theorem map_err {α β : Type} {r : Except PErr α} {f : α → β} {e : PErr} (h : r.map f = .error e) : r = .error e := by
  cases r with
  | error e => simpa [Except.map] using h
  | ok x => cases h
theorem geom_stable (deep : Int) : ∀ (f : Nat) (level home : Int), Stable fun l => geomR l deep f level home := by
  intro f
  induction f with
  | zero => intro level home l m a x a' h; cases h
  | succ f ih =>
    intro level home l m a x a' h
    simp only [geomR] at h ⊢
    split at h
    · cases h
    rename_i lt k hh
    obtain ⟨g1, g2⟩ := head_stable (m := m) hh
    rw [g2]
    simp only
    split at h
    · rename_i hk
      rw [if_pos hk]
      obtain ⟨r, hr, hx⟩ := map_ok h
      obtain ⟨q1, q2⟩ := place_stable lt l m _ _ _ hr
      simp only at q2
      rw [q2]
      cases hx
      exact ⟨q1, rfl⟩
    rename_i hk1
    rw [if_neg hk1]
    split at h
    · rename_i hk
      rw [if_pos hk]
      split at h
      · cases h
      rename_i n a1 hc
      rw [countR_ext hc]
      have hc := countR_len hc
      obtain ⟨r, hr, hx⟩ := map_ok h
      have := ptsR_at _ _ _ _ hr
      simp only
      rw [ptsR_ext _ _ (by omega), hr]
      cases hx
      exact ⟨by omega, rfl⟩
    rename_i hk2
    rw [if_neg hk2]
    split at h
    · rename_i hk
      rw [if_pos hk]
      split at h
      · cases h
      rename_i n a1 hc
      rw [countR_ext hc]
      have hc := countR_len hc
      obtain ⟨r, hr, hx⟩ := map_ok h
      obtain ⟨q1, q2⟩ := many_stable (ring_stable lt) n l m a1 _ _ (by omega) hr
      simp only
      rw [q2]
      cases hx
      exact ⟨q1, rfl⟩
    · rename_i hk
      rw [if_neg hk]
      split at h
      · cases h
      rename_i n a1 hc
      rw [countR_ext hc]
      have hc := countR_len hc
      obtain ⟨r, hr, hx⟩ := map_ok h
      obtain ⟨q1, q2⟩ := many_stable (ih (level + 1) k) n l m a1 _ _ (by omega) hr
      simp only
      rw [q2]
      cases hx
      exact ⟨q1, rfl⟩
theorem geom_placed (deep : Int) : ∀ (f : Nat) (level home : Int), Placed fun l => geomR l deep f level home := by
  intro f
  induction f with
  | zero => intro level home l a e ha h; cases h; simp; omega
  | succ f ih =>
    intro level home l a e ha h
    simp only [geomR] at h
    split at h
    · rename_i hh; cases h; exact head_placed ha hh
    rename_i lt k hh
    have g1 := (head_stable (m := []) hh).1
    split at h
    · exact place_placed lt l _ _ g1 (map_err h)
    split at h
    · split at h
      · rename_i hc; cases h; have := countR_err hc; omega
      rename_i n a1 hc
      have := countR_len hc
      have := ptsR_err _ _ _ (map_err h)
      omega
    split at h
    · split at h
      · rename_i hc; cases h; have := countR_err hc; omega
      rename_i n a1 hc
      have := countR_len hc
      exact many_placed (ring_stable lt) (ring_placed lt) n l a1 e (by omega) (map_err h)
    · split at h
      · rename_i hc; cases h; have := countR_err hc; omega
      rename_i n a1 hc
      have := countR_len hc
      exact many_placed (geom_stable deep f (level + 1) k) (ih (level + 1) k) n l a1 e (by omega) (map_err h)

/-- what Frame writes, Parse reads -/
theorem parse_back (lt : Bool) (g : G) (hg : WellG 256 1 0 g) (hl : (encG [lt] g 0).length ≤ 65536) : ∃ bs, parseR (encG [lt] g 0) 256 65536 = .ok (g, bs) := by
  obtain ⟨bs, h⟩ := geom_back (l := encG [lt] g 0) (deep := 256) [lt] g 257 1 0 0 0 hg (by omega) ⟨[], by simp⟩
  refine ⟨bs, ?_⟩
  unfold parseR
  rw [if_neg (by omega), show min (256 : Int) 256 = 256 from rfl, h]
  simp only [Nat.zero_add]
  rw [if_neg (by omega)]
/-- other bytes that begin alike are no tree -/
theorem parse_more (lt : Bool) (g : G) (hg : WellG 256 1 0 g) (m : List UInt8) (hm : m ≠ []) (hl : (encG [lt] g 0 ++ m).length ≤ 65536) : ∃ e, parseR (encG [lt] g 0 ++ m) 256 65536 = .error e := by
  obtain ⟨bs, h⟩ := geom_back (l := encG [lt] g 0 ++ m) (deep := 256) [lt] g 257 1 0 0 0 hg (by omega) ⟨m, by simp⟩
  refine ⟨(((encG [lt] g 0).length : Int), 174), ?_⟩
  unfold parseR
  rw [if_neg (by omega), show min (256 : Int) 256 = 256 from rfl, h]
  simp only [Nat.zero_add]
  rw [if_pos (by have := List.length_pos_iff.2 hm; simp; omega)]
theorem parse_less (lt : Bool) (g : G) (hg : WellG 256 1 0 g) (k : Nat) (hk : k < (encG [lt] g 0).length) (hl : k ≤ 65536) : ∃ e, parseR ((encG [lt] g 0).take k) 256 65536 = .error e := by
  obtain ⟨bs, h⟩ := geom_back (l := encG [lt] g 0) (deep := 256) [lt] g 257 1 0 0 0 hg (by omega) ⟨[], by simp⟩
  have hlk : ((encG [lt] g 0).take k).length = k := by simp; omega
  unfold parseR
  rw [if_neg (by omega), show min (256 : Int) 256 = 256 from rfl]
  split
  · exact ⟨_, rfl⟩
  · rename_i r a h1
    have h2 := geom_stable 256 257 1 0 ((encG [lt] g 0).take k) ((encG [lt] g 0).drop k) 0 r a h1
    simp only [List.take_append_drop] at h2
    rw [h] at h2
    obtain ⟨q1, q2⟩ := h2
    cases q2
    omega
theorem parse_place {l : List UInt8} {d : Int} {e : PErr} (hl : l.length ≤ 65536) (h : parseR l d 65536 = .error e) : 0 ≤ e.1 ∧ e.1 ≤ (l.length : Int) := by
  unfold parseR at h
  rw [if_neg (by omega)] at h
  split at h
  · rename_i h1
    cases h
    exact geom_placed _ _ _ _ l 0 _ (Nat.zero_le _) h1
  · rename_i r a h1
    split at h
    · cases h; simp; omega
    · cases h
end Go.Proofs.YtlffgepnhhnadaaDoor.Pl
