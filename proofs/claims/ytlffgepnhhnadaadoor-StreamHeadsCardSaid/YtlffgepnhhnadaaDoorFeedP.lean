/- Records one behind the other: plain Lean. -/
import Derived.Test.YtlffgepnhhnadaaDoorMono
namespace Go.Proofs.YtlffgepnhhnadaaDoor.Pl
open Go.RowKit

theorem wrapI_small {n : Int} (h : 0 ≤ n) (h2 : n ≤ 4611686018427387904) : IntKind.i64.wrap n = n := by
  simp only [IntKind.wrap, IntKind.bits, IntKind.signed]; simp; omega
/-- what record finds does not hang on what comes behind -/
theorem recR_ext {l m : List UInt8} {d : Int} (h : recR l d ≠ .wait) : recR (l ++ m) d = recR l d := by
  unfold recR at h ⊢
  by_cases h8 : l.length < 8
  · rw [if_pos h8] at h; exact absurd rfl h
  have e4 : wd (l ++ m) 4 4 false = wd l 4 4 false := wd_ext (by omega)
  have et : (l ++ m).take 4 = l.take 4 := List.take_append_of_le_length (by omega)
  rw [if_neg h8] at h ⊢
  rw [if_neg (by simp; omega), et, e4]
  by_cases hm : l.take 4 ≠ markB
  · rw [if_pos hm, if_pos hm]
  rw [if_neg hm] at h ⊢
  rw [if_neg hm]
  by_cases hb : 65536 < wd l 4 4 false
  · rw [if_pos hb, if_pos hb]
  rw [if_neg hb] at h ⊢
  rw [if_neg hb]
  by_cases hl : l.length < 8 + wd l 4 4 false + 4
  · rw [if_pos hl] at h; exact absurd rfl h
  rw [if_neg hl, if_neg (by simp; omega), wd_ext (by omega), List.take_append_of_le_length (by omega), List.drop_append_of_le_length (by omega), List.take_append_of_le_length (by simp; omega)]
theorem recR_bad {l : List UInt8} {d a c : Int} (h : recR l d = .bad a c) : 0 ≤ a ∧ a ≤ (l.length : Int) := by
  unfold recR at h
  split at h
  · cases h
  split at h
  · cases h; omega
  split at h
  · cases h; omega
  split at h
  · cases h
  split at h
  · cases h; omega
  split at h
  · rename_i e hp
    have hlen : ((l.drop 8).take (wd l 4 4 false)).length = wd l 4 4 false := by simp; omega
    have := parse_place (by omega) hp
    rw [hlen] at this
    rw [wrapI_small (by omega) (by omega)] at h
    cases h
    omega
  · cases h
/-- all that is read of bytes -/
def feed (d : Int) (l : List UInt8) : List G × Nat × List UInt8 × Option (Int × Int) := feedR d (l.length + 1) l
theorem feedR_fuel (d : Int) : ∀ (f k : Nat) (l : List UInt8), l.length < f → l.length < k → feedR d f l = feedR d k l := by
  intro f
  induction f with
  | zero => intro k l h; omega
  | succ f ih =>
    intro k l h1 h2
    obtain ⟨k, rfl⟩ : ∃ k', k = k' + 1 := ⟨k - 1, by omega⟩
    simp only [feedR]
    cases hr : recR l d with
    | wait => rfl
    | bad a c => rfl
    | got g n =>
      have := recR_got hr
      simp only
      rw [ih k (l.drop n) (by simp; omega) (by simp; omega)]
theorem feed_wait {d : Int} {l : List UInt8} (h : recR l d = .wait) : feed d l = ([], 0, l, none) := by unfold feed; simp only [feedR, h]
theorem feed_bad {d : Int} {l : List UInt8} {a c : Int} (h : recR l d = .bad a c) : feed d l = ([], 0, l, some (a, c)) := by unfold feed; simp only [feedR, h]
theorem feed_got {d : Int} {l : List UInt8} {g : G} {n : Nat} (h : recR l d = .got g n) : feed d l = (g :: (feed d (l.drop n)).1, n + (feed d (l.drop n)).2.1, (feed d (l.drop n)).2.2) := by
  have := recR_got h
  have e : feedR d l.length (l.drop n) = feed d (l.drop n) := feedR_fuel d _ _ _ (by simp; omega) (by simp)
  unfold feed at e ⊢
  simp only [feedR, h, e]
/-- what feed does on bytes in two pieces -/
theorem feed_join (d : Int) : ∀ (k : Nat) (l m : List UInt8), l.length ≤ k → feed d (l ++ m) = match (feed d l).2.2.2 with
    | some e => ((feed d l).1, (feed d l).2.1, (feed d l).2.2.1 ++ m, some e)
    | none => ((feed d l).1 ++ (feed d ((feed d l).2.2.1 ++ m)).1, (feed d l).2.1 + (feed d ((feed d l).2.2.1 ++ m)).2.1, (feed d ((feed d l).2.2.1 ++ m)).2.2) := by
  intro k
  induction k with
  | zero =>
    intro l m h
    have : l = [] := List.eq_nil_of_length_eq_zero (by omega)
    subst this
    rw [feed_wait (l := []) (d := d) (by unfold recR; rfl)]
    simp
  | succ k ih =>
    intro l m h
    cases hr : recR l d with
    | wait => rw [feed_wait hr]; simp
    | bad a c =>
      have h2 := recR_ext (m := m) (l := l) (d := d) (by rw [hr]; simp)
      rw [hr] at h2
      rw [feed_bad hr, feed_bad h2]
    | got g n =>
      have h2 := recR_ext (m := m) (l := l) (d := d) (by rw [hr]; simp)
      rw [hr] at h2
      have h3 := recR_got hr
      have h4 := ih (l.drop n) m (by simp; omega)
      rw [feed_got hr, feed_got h2, List.drop_append_of_le_length (by omega), h4]
      cases (feed d (l.drop n)).2.2.2 with
      | none => simp [Nat.add_assoc]
      | some e => simp
/-- the number of bytes that feed takes -/
theorem feed_len (d : Int) : ∀ (k : Nat) (l : List UInt8), l.length ≤ k → (feed d l).2.1 + (feed d l).2.2.1.length = l.length ∧ (feed d l).2.2.1 = l.drop (feed d l).2.1 ∧ 12 * (feed d l).1.length ≤ (feed d l).2.1 := by
  intro k
  induction k with
  | zero =>
    intro l h
    have : l = [] := List.eq_nil_of_length_eq_zero (by omega)
    subst this
    rw [feed_wait (l := []) (d := d) (by unfold recR; rfl)]
    simp
  | succ k ih =>
    intro l h
    cases hr : recR l d with
    | wait => rw [feed_wait hr]; simp
    | bad a c => rw [feed_bad hr]; simp
    | got g n =>
      have h3 := recR_got hr
      obtain ⟨i1, i2, i3⟩ := ih (l.drop n) (by simp; omega)
      rw [feed_got hr]
      simp only [List.length_cons]
      refine ⟨by simp at i1; omega, ?_, by omega⟩
      rw [← List.drop_drop]; exact i2
theorem feed_place (d : Int) : ∀ (k : Nat) (l : List UInt8), l.length ≤ k → ∀ a c, (feed d l).2.2.2 = some (a, c) → 0 ≤ a ∧ a ≤ ((feed d l).2.2.1.length : Int) := by
  intro k
  induction k with
  | zero =>
    intro l h
    have : l = [] := List.eq_nil_of_length_eq_zero (by omega)
    subst this
    rw [feed_wait (l := []) (d := d) (by unfold recR; rfl)]
    simp
  | succ k ih =>
    intro l h a c
    cases hr : recR l d with
    | wait => rw [feed_wait hr]; simp
    | bad x y => rw [feed_bad hr]; rintro ⟨⟩; exact recR_bad hr
    | got g n =>
      have h3 := recR_got hr
      rw [feed_got hr]
      exact ih (l.drop n) (by simp; omega) a c

theorem headB_length (wb : List UInt8) : (headB wb).length = 8 + wb.length := by simp [headB, markB, encB_length]; omega
theorem frameB_length (wb : List UInt8) : (frameB wb).length = 12 + wb.length := by simp [frameB, headB_length, encB_length]; omega
theorem sumR_lt (l : List UInt8) : sumR l < 4294967296 := by unfold sumR; omega
/-- the parts of a record that stands at the head of bytes: its mark, length, bytes and sum -/
theorem frame_parts (wb m : List UInt8) (hw : wb.length ≤ 65536) : (frameB wb ++ m).take 4 = markB ∧ wd (frameB wb ++ m) 4 4 false = wb.length ∧ wd (frameB wb ++ m) (8 + wb.length) 4 false = sumR (headB wb) ∧
    (frameB wb ++ m).take (8 + wb.length) = headB wb ∧ ((frameB wb ++ m).drop 8).take wb.length = wb := by
  have s0 : Seg (frameB wb ++ m) 0 (headB wb ++ encB 4 (sumR (headB wb)) false) := ⟨m, rfl⟩
  have s1 : Seg (frameB wb ++ m) (8 + wb.length) (encB 4 (sumR (headB wb)) false) := by
    have := s0.right
    rw [headB_length] at this
    simpa using this
  have s2 : Seg (frameB wb ++ m) 0 (markB ++ (encB 4 wb.length false ++ wb)) := by
    have := s0.left
    rw [headB, List.append_assoc] at this
    exact this
  have s3 : Seg (frameB wb ++ m) 4 (encB 4 wb.length false ++ wb) := by simpa [markB] using s2.right
  have s4 : Seg (frameB wb ++ m) 8 wb := by simpa [encB_length] using s3.right
  refine ⟨by simp [frameB, headB, markB], s3.left.wd (by simp; omega), s1.wd (by simpa using sumR_lt _), ?_, ?_⟩
  · unfold frameB
    rw [List.append_assoc, ← headB_length, List.take_left']
    rfl
  · obtain ⟨p, hp⟩ := s4
    rw [hp, List.take_left' rfl]
theorem rec_frame (lt : Bool) (g : G) (hg : WellG 256 1 0 g) (hl : (encG [lt] g 0).length ≤ 65536) (m : List UInt8) : recR (frameB (encG [lt] g 0) ++ m) 256 = .got g (frameB (encG [lt] g 0)).length := by
  obtain ⟨bs, hp⟩ := parse_back lt g hg hl
  generalize hwb : encG [lt] g 0 = wb at *
  obtain ⟨p1, p2, p3, p4, p5⟩ := frame_parts wb m hl
  have hfl := frameB_length wb
  unfold recR
  rw [if_neg (by simp; omega), p1, if_neg (by simp), p2, if_neg (by omega), if_neg (by simp; omega), p3, p4, if_neg (by simp), p5, hp]
  simp only
  rw [show 8 + wb.length + 4 = (frameB wb).length by omega]
/-- records one behind the other, and what comes behind them -/
theorem feed_frames : ∀ (l : List (Bool × G)) (m : List UInt8), (∀ x ∈ l, WellG 256 1 0 x.2 ∧ (encG [x.1] x.2 0).length ≤ 65536) →
    feed 256 (l.flatMap (fun x => frameB (encG [x.1] x.2 0)) ++ m) = (l.map (·.2) ++ (feed 256 m).1, (l.flatMap (fun x => frameB (encG [x.1] x.2 0))).length + (feed 256 m).2.1, (feed 256 m).2.2)
  | [], m, _ => by simp
  | x :: l, m, h => by
    obtain ⟨h1, h2⟩ := h x (by simp)
    have h3 := feed_frames l m (fun y hy => h y (by simp [hy]))
    rw [List.flatMap_cons, List.append_assoc, feed_got (rec_frame x.1 x.2 h1 h2 _), List.drop_left, h3]
    simp [Nat.add_assoc]
theorem feed_nil (d : Int) : feed d [] = ([], 0, [], none) := feed_wait (by unfold recR; rfl)
end Go.Proofs.YtlffgepnhhnadaaDoor.Pl
