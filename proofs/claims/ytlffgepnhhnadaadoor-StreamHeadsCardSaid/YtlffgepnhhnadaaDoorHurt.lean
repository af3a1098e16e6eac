/- A record in which one byte was changed: plain Lean. -/
import Derived.Test.YtlffgepnhhnadaaDoorFeedP
namespace Go.Proofs.YtlffgepnhhnadaaDoor.Pl
open Go.RowKit

theorem fold_inj : ∀ (l m : List UInt8) (v u : Nat), l.length = m.length → l.foldl (fun v c => 256 * v + c.toNat) v = m.foldl (fun v c => 256 * v + c.toNat) u → v = u ∧ l = m
  | [], [], v, u, _, h => ⟨h, rfl⟩
  | c :: l, d :: m, v, u, hl, h => by
    obtain ⟨h1, h2⟩ := fold_inj l m (256 * v + c.toNat) (256 * u + d.toNat) (by simpa using hl) h
    have := c.toNat_lt
    have := d.toNat_lt
    have h3 : c.toNat = d.toNat := by omega
    exact ⟨by omega, by rw [h2, UInt8.toNat_inj.1 h3]⟩
theorem dec_inj {l m : List UInt8} (hl : l.length = m.length) (h : decB l false = decB m false) : l = m := by
  unfold decB at h
  simp only [Bool.false_eq_true, if_false] at h
  exact (fold_inj l m 0 0 hl h).2
theorem wd_set_in {l : List UInt8} {a k n : Nat} {x : UInt8} (h1 : a ≤ k) (h2 : k < a + n) (h3 : a + n ≤ l.length) (hx : x ≠ l[k]'(by omega)) : wd (l.set k x) a n false ≠ wd l a n false := by
  intro h
  unfold wd at h
  have := dec_inj (by simp) h
  have := congrArg (·[k - a]?) this
  simp only [List.getElem?_take, List.getElem?_drop] at this
  rw [if_pos (by omega), if_pos (by omega), show a + (k - a) = k by omega, List.getElem?_eq_getElem (by simp; omega), List.getElem?_eq_getElem (by omega)] at this
  simp at this
  exact hx this
theorem wd_set_out {l : List UInt8} {a k n : Nat} {x : UInt8} (h : k < a ∨ a + n ≤ k) : wd (l.set k x) a n false = wd l a n false := by
  unfold wd
  congr 1
  apply List.ext_getElem?
  intro i
  simp only [List.getElem?_take, List.getElem?_drop]
  split
  · rw [List.getElem?_set_ne (by omega)]
  · rfl
/-- a record in which one byte was changed, and whatever behind it -/
theorem rec_hurt (lt : Bool) (g : G) (hg : WellG 256 1 0 g) (hl : (encG [lt] g 0).length ≤ 65536) (m : List UInt8) (k : Nat) (x : UInt8) (hk : k < (frameB (encG [lt] g 0)).length) (f : List UInt8) (hfm : frameB (encG [lt] g 0) ++ m = f)
    (hx : f[k]? ≠ some x) :
    (8 ≤ k → recR (f.set k x) 256 = .bad (((frameB (encG [lt] g 0)).length : Int) - 4) 271) ∧
    (k < 4 → recR (f.set k x) 256 = .bad 0 270) ∧
    (4 ≤ k → k < 8 → recR (f.set k x) 256 = .wait ∨ ∃ a e, recR (f.set k x) 256 = .bad a e ∧ 4 ≤ a ∧ a ≤ (f.length : Int)) := by
  have hless := parse_less lt g hg
  have hmore := parse_more lt g hg
  generalize hwb : encG [lt] g 0 = wb at *
  obtain ⟨p1, p2, p3, p4, p5⟩ := frame_parts wb m hl
  have hfl := frameB_length wb
  rw [hfm] at p1 p2 p3 p4 p5
  have hflen0 : f.length = 12 + wb.length + m.length := by rw [← hfm, List.length_append]; omega
  have hkf : k < f.length := by omega
  have hx : x ≠ f[k]'hkf := fun e => hx (by rw [List.getElem?_eq_getElem hkf, e])
  have hflen : f.length = 12 + wb.length + m.length := by rw [← hfm, List.length_append]; omega
  have hcl : (f.set k x).length = 12 + wb.length + m.length := by rw [List.length_set]; omega
  have hhl := headB_length wb
  refine ⟨fun h8 => ?_, fun h4 => ?_, fun h4 h8 => ?_⟩
  · have t4 : (f.set k x).take 4 = markB := by rw [List.take_set_of_le (by omega), p1]
    have w4 : wd (f.set k x) 4 4 false = wb.length := by rw [wd_set_out (by omega), p2]
    unfold recR
    rw [if_neg (by omega), t4, if_neg (by simp), w4, if_neg (by omega), if_neg (by omega), if_pos ?_]
    · congr 1; omega
    by_cases hin : k < 8 + wb.length
    · rw [wd_set_out (by omega), p3]
      have e : (f.set k x).take (8 + wb.length) = (headB wb).set k x := by rw [← p4, List.take_set]
      rw [e]
      refine (sumR_set _ k (by omega) x ?_).symm
      intro he
      refine hx (he.trans ?_)
      have : (headB wb)[k]? = f[k]? := by rw [← p4, List.getElem?_take, if_pos hin]
      rw [List.getElem?_eq_getElem (by omega), List.getElem?_eq_getElem (by omega)] at this
      exact Option.some.inj this
    · rw [List.take_set_of_le (by omega), p4, ← p3]
      exact wd_set_in (by omega) (by omega) (by omega) hx
  · have t4 : (f.set k x).take 4 ≠ markB := by
      rw [List.take_set, p1]
      intro he
      have this : (markB.set k x)[k]? = markB[k]? := congrArg (·[k]?) he
      have h1 : markB[k]? = f[k]? := by rw [← p1, List.getElem?_take, if_pos h4]
      rw [h1, List.getElem?_set_self (by simpa [markB] using h4), List.getElem?_eq_getElem (by omega)] at this
      exact hx (Option.some.inj this)
    unfold recR
    rw [if_neg (by omega), if_pos t4]
  · have t4 : (f.set k x).take 4 = markB := by rw [List.take_set_of_le (by omega), p1]
    have w4 : wd (f.set k x) 4 4 false ≠ wb.length := by rw [← p2]; exact wd_set_in (by omega) (by omega) (by omega) hx
    unfold recR
    rw [if_neg (by omega), t4, if_neg (by simp)]
    generalize wd (f.set k x) 4 4 false = n at *
    by_cases h1 : 65536 < n
    · rw [if_pos h1]
      exact .inr ⟨_, _, rfl, by omega, by omega⟩
    rw [if_neg h1]
    by_cases h2 : (f.set k x).length < 8 + n + 4
    · rw [if_pos h2]; exact .inl rfl
    rw [if_neg h2]
    by_cases h3 : wd (f.set k x) (8 + n) 4 false ≠ sumR ((f.set k x).take (8 + n))
    · rw [if_pos h3]
      exact .inr ⟨_, _, rfl, by omega, by omega⟩
    rw [if_neg h3]
    have hd : (f.set k x).drop 8 = wb ++ (f.drop 8).drop wb.length := by
      rw [List.drop_set_of_lt (by omega)]
      conv => rhs; lhs; rw [← p5]
      rw [List.take_append_drop]
    have hlen : (((f.set k x).drop 8).take n).length = n := by rw [List.length_take, List.length_drop]; omega
    have herr : ∃ e, parseR (((f.set k x).drop 8).take n) 256 65536 = .error e := by
      rcases Nat.lt_or_gt_of_ne w4 with h4 | h4
      · rw [hd, List.take_append_of_le_length (by omega)]
        exact hless n h4 (by omega)
      · have e : ((f.set k x).drop 8).take n = wb ++ ((f.drop 8).drop wb.length).take (n - wb.length) := by
          rw [hd, List.take_append, List.take_of_length_le (by omega)]
        rw [e] at hlen ⊢
        exact hmore _ (by intro h; rw [h] at hlen; simp at hlen; omega) (by omega)
    obtain ⟨e, he⟩ := herr
    have hpl := parse_place (by omega) he
    rw [he]
    simp only
    rw [hlen] at hpl
    rw [wrapI_small (by omega) (by omega)]
    exact .inr ⟨_, _, rfl, by omega, by omega⟩
end Go.Proofs.YtlffgepnhhnadaaDoor.Pl
