/- The laws' own small functions, walked: cut, same. -/
import Derived.Test.YtlffgepnhhnadaaDoorAlive
import Derived.Test.YtlffgepnhhnadaaDoorPlain
namespace Go.Proofs.YtlffgepnhhnadaaDoor.Pl
open Go.RowKit

theorem take_snoc {α : Type} {l : List α} {k : Nat} {x : α} (h : l[k]? = some x) : l.take (k + 1) = l.take k ++ [x] := by rw [List.take_add_one, h]; rfl

set_option maxRecDepth 100000 in
set_option maxHeartbeats 2000000 in
theorem cut_any {ok : Nat → Prop} {v : Value} {l : List UInt8} (n : Int) (w : World) (hv : Bytes ok w v l) :
    Calls Tryd.prog 30 #[v, .int .i64 n] w fun e w' => ∃ r, e = .returned r ∧ OwnB w.heap.size w' r (l.take n.toNat) ∧ Below w.heap.size w w' := by
  obtain ⟨A, c, rfl, hc, hl2, hrow⟩ := hv
  have HR := Lib.hid hrow
  clear hrow
  go_enter Tryd.func30, Tryd.ntmps30
  go_wp2_with fail
  go_loopw [6, 5] (fun i x W => ∃ k : Nat, k ≤ l.length ∧ k ≤ n.toNat ∧ i = .int .i64 k ∧ Hid (OwnB w.heap.size W x (l.take k) ∧ Below w.heap.size w W)) (fun i _ _ => l.length - (intOf i).toNat)
  case atStart => exact ⟨0, Nat.zero_le _, Nat.zero_le _, rfl, Lib.hid ⟨⟨rfl, .inl ⟨rfl, rfl⟩⟩, Below.refl _ _⟩⟩
  case round =>
    obtain ⟨k, hk, hkn, rfl, HR2⟩ := hrel
    by_cases hkl : k < l.length
    · by_cases hn2 : (k : Int) < n
      · have hp : l[k]? = some l[k] := List.getElem?_eq_getElem hkl
        obtain ⟨b, o, rfl, _, _, hcell⟩ := (HR.out.keeps (below_keeps HR2.out.2 ok)).at (by intro e; have h := congrArg List.length e; rw [List.length_map] at h; simp only [List.length_nil] at h; omega)
        have cc := hcell k (bv l[k]) (by simp [hp])
        clear hcell
        have hlk : (l.take k).length = k := by rw [List.length_take]; omega
        have HNX := Lib.hid (take_snoc hp)
        generalize l[k] = x at cc HNX
        clear hp
        have HAL := Lib.hid ((Below.refl wr.heap.size wr).alloc (Nat.le_refl _) (.cells #[bv x] 5))
        simp only [bv] at cc
        go_wp2_with (first
          | (refine (list_append rfl (.tmp 18) (.tmp 23) rfl u5 _ (by rfl) (by rfl) (ownsRow_below HR2.out.1 HAL.out) (one_byte wr x) (by simp) (by rw [hlk]; simp only [List.length_cons, List.length_nil]; omega) (Nat.le_trans HR2.out.2.size HAL.out.size) ?_)
             intro g3 cap3 w4 ho3 hgr3 hg3 hlt3
             have HR3 := Lib.hid (And.intro ho3 hgr3)
             clear ho3 hgr3 hg3 hlt3)
          | fail)
        go_roundw
        · refine ⟨k + 1, hkl, by omega, by simp, Lib.hid ⟨by rw [HNX.out]; have h := HR3.out.1; rw [hlk] at h; exact h, (HR2.out.2.trans (HAL.out.mono HR2.out.2.size)).grown HR3.out.2 (Nat.le_trans HR2.out.2.size HAL.out.size) (fun k e => (World.ownsRow.lt HR2.out.1 k e).1)⟩⟩
        · simp [intOf]; omega
      · have hke : n.toNat = k := by omega
        go_wp2_with fail
        go_ret
        exact ⟨_, rfl, by first | exact HR2.out.1 | (rw [hke]; exact HR2.out.1), HR2.out.2⟩
    · have hke : l.take n.toNat = l.take k := by rw [List.take_of_length_le (by omega), List.take_of_length_le (by omega)]
      go_wp2_with fail
      go_ret
      exact ⟨_, rfl, by first | exact HR2.out.1 | (rw [hke]; exact HR2.out.1), HR2.out.2⟩
set_option maxRecDepth 100000 in
theorem same_any {ok ok2 : Nat → Prop} {v u : Value} {l m : List UInt8} (w : World) (hv : Bytes ok w v l) (hu : Bytes ok2 w u m) :
    Calls Tryd.prog 26 #[v, u] w fun e w' => e = .returned (.bool (decide (l = m))) ∧ Below w.heap.size w w' := by
  obtain ⟨A, c, rfl, hc, hl2, hrow⟩ := hv
  obtain ⟨A2, c2, rfl, hc2, hl22, hrow2⟩ := hu
  have HR := Lib.hid (And.intro hrow hrow2)
  clear hrow hrow2
  by_cases hlm : l.length = m.length
  · go_enter Tryd.func26, Tryd.ntmps26
    go_wp2_with fail
    go_loopw [5] (fun i W => ∃ k n : Nat, k ≤ l.length ∧ i = .int .i64 k ∧ l.take k = m.take k ∧ W = w.drewN n) (fun i _ => l.length - (intOf i).toNat)
    case atStart => exact ⟨0, 0, Nat.zero_le _, rfl, by simp, rfl⟩
    case round =>
      obtain ⟨k, n, hk, rfl, htk, hW⟩ := hrel
      by_cases hkl : k < l.length
      · have hp : l[k]? = some l[k] := List.getElem?_eq_getElem hkl
        have hq : m[k]? = some m[k] := List.getElem?_eq_getElem (by omega)
        have hh : wr.heap = w.heap := by rw [hW]; rfl
        obtain ⟨b, o, rfl, _, _, hcell⟩ := HR.out.1.at (by intro e; have h := congrArg List.length e; rw [List.length_map] at h; simp only [List.length_nil] at h; omega)
        obtain ⟨b2, o2, rfl, _, _, hcell2⟩ := HR.out.2.at (by intro e; have h := congrArg List.length e; rw [List.length_map] at h; simp only [List.length_nil] at h; omega)
        have cc := (World.cell?_of_block (w := w) (w' := wr) (a := ⟨b, o + k, none⟩) (by rw [hh])).trans (hcell k (bv l[k]) (by simp [hp]))
        have cc2 := (World.cell?_of_block (w := w) (w' := wr) (a := ⟨b2, o2 + k, none⟩) (by rw [hh])).trans (hcell2 k (bv m[k]) (by simp [hq]))
        simp only [bv] at cc cc2
        clear hcell hcell2 hh
        have HNX := Lib.hid (And.intro (take_snoc hp) (take_snoc hq))
        have HW := Lib.hid (And.intro hW htk)
        have HPQ := Lib.hid (And.intro hp hq)
        clear hp hq hW htk
        by_cases hxy : l[k] = m[k]
        · rw [hxy] at cc HNX
          generalize m[k] = y at cc cc2 HNX
          clear hxy HPQ
          have hbe : ((y.toNat : Int) != (y.toNat : Int)) = false := by simp
          go_wp2
          go_quiet (fail)
          go_wp2
          go_roundw
          · exact ⟨k + 1, n + nq, hkl, by simp, by rw [HNX.out.1, HNX.out.2, HW.out.2], by rw [HW.out.1, drewN_add]⟩
          · simp [intOf]; omega
        · have hne : l ≠ m := by intro e; subst e; exact hxy rfl
          have hbe : ((l[k].toNat : Int) != (m[k].toNat : Int)) = true := by
            simp only [bne_iff_ne, ne_eq]
            intro e; exact hxy (UInt8.toNat_inj.1 (by omega))
          generalize l[k].toNat = x at cc hbe
          generalize m[k].toNat = y at cc2 hbe
          go_wp2
          go_quiet (fail)
          go_wp2
          go_ret
          exact ⟨ret_bool (by simp [hne]), by rw [HW.out.1]; exact below_drewN (below_drewN (Below.refl _ _) _) _⟩
      · have : l = m := by rw [List.take_of_length_le (by omega), List.take_of_length_le (by omega)] at htk; exact htk
        have HW := Lib.hid hW
        clear hW
        go_wp2
        go_ret
        exact ⟨ret_bool (by simp [this]), by rw [HW.out]; exact below_drewN (Below.refl _ _) _⟩
  · have hne : l ≠ m := by intro e; subst e; exact hlm rfl
    have hbe : ((l.length : Int) != (m.length : Int)) = true := by simp; omega
    go_enter Tryd.func26, Tryd.ntmps26
    go_wp2
    go_ret
    exact ⟨ret_bool (by simp [hne]), Below.refl _ _⟩
end Go.Proofs.YtlffgepnhhnadaaDoor.Pl
