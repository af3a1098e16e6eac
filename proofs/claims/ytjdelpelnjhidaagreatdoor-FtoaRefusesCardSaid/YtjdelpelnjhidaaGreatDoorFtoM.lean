/- plumblaw14's split and hexed, walked. -/
import Derived.Test.YtjdelpelnjhidaaGreatDoorFtoL
namespace Go.Proofs.YtjdelpelnjhidaaGreatDoor.Pl
open Go.RowKit
theorem getB (l : List UInt8) (k : Nat) (h : k < l.length) (h' : k < (B l).size) : (B l)[k]'h' = l[k]'h := by simp [B]; rfl
theorem u8_eq {a b : UInt8} : ((a.toNat : Int) = (b.toNat : Int)) ↔ a = b := by
  constructor
  · intro h
    exact UInt8.toNat.inj (by omega)
  · rintro rfl; rfl
theorem B_part (l : List UInt8) (i j : Nat) : (B l).extract i j = B ((l.take j).drop i) := by
  rw [← B_data ((B l).extract i j)]
  congr 1
  simp [B]
  rw [List.drop_take]
/-- ahead of the first such byte, and behind it -/
def fstS (c : UInt8) (l : List UInt8) : List UInt8 := l.takeWhile (· != c)
def sndS (c : UInt8) (l : List UInt8) : List UInt8 := (l.dropWhile (· != c)).drop 1
theorem cutS_at {c : UInt8} {a b : List UInt8} (h : c ∉ a) : fstS c (a ++ c :: b) = a ∧ sndS c (a ++ c :: b) = b := by
  have h1 : ∀ x ∈ a, (x != c) = true := fun x hx => by simp only [bne_iff_ne, ne_eq]; rintro rfl; exact h hx
  unfold fstS sndS
  rw [List.takeWhile_append_of_pos h1, List.dropWhile_append_of_pos h1, List.takeWhile_cons_of_neg (by simp), List.dropWhile_cons_of_neg (by simp)]
  simp
theorem cutS_no {c : UInt8} {a : List UInt8} (h : c ∉ a) : fstS c a = a ∧ sndS c a = [] := by
  have h1 : ∀ x ∈ a, (x != c) = true := fun x hx => by simp only [bne_iff_ne, ne_eq]; rintro rfl; exact h hx
  unfold fstS sndS
  have e1 := List.takeWhile_append_of_pos (l₂ := []) h1
  have e2 := List.dropWhile_append_of_pos (l₂ := []) h1
  rw [List.append_nil] at e1 e2
  rw [e1, e2]
  simp
theorem cutS_get {c : UInt8} {l : List UInt8} {k : Nat} (hk : k < l.length) (h : ∀ x ∈ l.take k, x ≠ c) (hc : l[k] = c) : fstS c l = l.take k ∧ sndS c l = l.drop (k + 1) := by
  have h1 : l = l.take k ++ c :: l.drop (k + 1) := by
    rw [← hc, List.getElem_cons_drop, List.take_append_drop]
  have h2 := cutS_at (c := c) (a := l.take k) (b := l.drop (k + 1)) (fun hm => h c hm rfl)
  rwa [← h1] at h2
set_option maxRecDepth 100000 in
set_option maxHeartbeats 8000000 in
theorem cutS_any (l : List UInt8) (c : UInt8) (w : World) (hl : l.length ≤ 200) : Calls Tryz.prog 10 #[.string (B l), .int .u8 c.toNat] w fun e w' => e = .returned (.tuple #[.string (B (fstS c l)), .string (B (sndS c l))]) ∧ Below w.heap.size w w' := by
  have HS := Lib.hid (B_size l)
  have b1 : (B l).size ≤ 200 := by rw [B_size]; omega
  obtain ⟨C, hC⟩ : ∃ C, C = c.toNat := ⟨_, rfl⟩
  have HCC := Lib.hid hC
  rw [← hC]
  clear hC
  go_enter Tryz.func10, Tryz.ntmps10
  go_wp2_with fail
  go_loopw [6] (fun a wr => ∃ k : Nat, a = .int .i64 k ∧ k ≤ l.length ∧ (∀ x ∈ l.take k, x ≠ c) ∧ wr = w) (fun a _ => ((B l).size - intOf a).toNat)
  case atStart => exact ⟨0, rfl, Nat.zero_le _, by simp, rfl⟩
  case round =>
    obtain ⟨k, rfl, hk, hall, rfl⟩ := hrel
    by_cases hlt : k < (B l).size
    · have hlt2 : (k : Int) < (B l).size := by omega
      have hk2 : k < l.length := by rw [← HS.out]; exact hlt
      have hg := getB l k hk2 hlt
      have HG := Lib.hid hg
      clear hg
      by_cases hc : l[k]'hk2 = c
      · have heq : (((B l)[k]'hlt).toNat : Int) = (C : Int) := by rw [HG.out, HCC.out, hc]
        go_wp2_with fail
        go_quiet (fail)
        go_wp2_with fail
        go_ret2
        obtain ⟨e1, e2⟩ := cutS_get hk2 hall hc
        refine ⟨?_, drewN_below _ _⟩
        rw [e1, e2, ← B_take, ← B_drop]
        rfl
      · have heq : ¬ (((B l)[k]'hlt).toNat : Int) = (C : Int) := by rw [HG.out, HCC.out, u8_eq]; exact hc
        go_wp2_with fail
        refine ⟨⟨k + 1, rfl, hk2, fun x hx => ?_, trivial⟩, ?_⟩
        · rw [List.take_succ_eq_append_getElem hk2, List.mem_append, List.mem_singleton] at hx
          rcases hx with hx | hx
          · exact hall x hx
          · rw [hx]; exact hc
        · show ((B l).size - ((k : Int) + 1)).toNat < ((B l).size - (k : Int)).toNat
          omega
    · go_wp2_with fail
      go_ret2
      have hkl : k = l.length := by rw [HS.out] at hlt; omega
      have hn : c ∉ l := fun hm => hall c (by rw [hkl, List.take_length]; exact hm) rfl
      obtain ⟨e1, e2⟩ := cutS_no hn
      refine ⟨?_, Below.refl _ _⟩
      rw [e1, e2]
      rfl
end Go.Proofs.YtjdelpelnjhidaaGreatDoor.Pl
