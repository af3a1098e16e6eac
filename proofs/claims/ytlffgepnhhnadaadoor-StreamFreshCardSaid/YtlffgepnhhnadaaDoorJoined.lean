/- plumblaw27.joined and equal, walked. -/
import Derived.Test.YtlffgepnhhnadaaDoorFramed
namespace Go.Proofs.YtlffgepnhhnadaaDoor.Pl
open Go.RowKit

theorem flatten_snoc {l : List (List UInt8)} {k : Nat} {x : List UInt8} (h : l[k]? = some x) : (l.take (k + 1)).flatten = (l.take k).flatten ++ x := by rw [take_snoc h]; simp
theorem flatten_le (l : List (List UInt8)) (k : Nat) : (l.take k).flatten.length ≤ l.flatten.length := by
  conv => rhs; rw [← List.take_append_drop k l]
  rw [List.flatten_append, List.length_append]; omega

set_option maxRecDepth 100000 in
set_option maxHeartbeats 2000000 in
theorem joined_any {ok ok2 : Nat → Prop} {v : Value} {n : Nat} {rs : List Value} {bs : List (List UInt8)} (w : World) (hv : Sl ok w v n rs) (hn : bs.length = n) (hb : Each (Bytes ok2 w) rs bs) (hl : bs.flatten.length ≤ 1000000000) :
    Calls Tryd.prog 28 #[v] w fun e w' => ∃ r, e = .returned r ∧ OwnB w.heap.size w' r bs.flatten ∧ Below w.heap.size w w' := by
  obtain ⟨A, c, rfl, hc, hl2, hrow⟩ := hv
  have HR := Lib.hid (And.intro hrow hb)
  have hrl := hb.length
  clear hrow hb
  go_enter Tryd.func28, Tryd.ntmps28
  go_wp2_with fail
  go_loopw [4, 3] (fun i x W => ∃ k : Nat, k ≤ n ∧ i = .int .i64 k ∧ Hid (OwnB w.heap.size W x (bs.take k).flatten ∧ Below w.heap.size w W)) (fun i _ _ => n - (intOf i).toNat)
  case atStart => exact ⟨0, Nat.zero_le _, rfl, Lib.hid ⟨⟨rfl, .inl ⟨rfl, rfl⟩⟩, Below.refl _ _⟩⟩
  case round =>
    obtain ⟨k, hk, rfl, HS⟩ := hrel
    by_cases hkn : k < n
    · obtain ⟨x, hx⟩ : ∃ x, bs[k]? = some x := ⟨_, List.getElem?_eq_getElem (by omega)⟩
      obtain ⟨xv, hxv, hxb⟩ := HR.out.2.at k x hx
      obtain ⟨b, o, rfl, _, hbl, hcell⟩ := HR.out.1.at (by intro e; rw [e] at hxv; simp at hxv)
      have cc := (HS.out.2.cell (p := ⟨b, o + k, none⟩) hbl).trans (hcell k xv hxv)
      have hxb2 := hxb
      obtain ⟨XA, xc, hxe, _⟩ := hxb2
      have HX := Lib.hid (And.intro (show Bytes ok2 wr xv x from Bytes.keepB hxb HS.out.2) (And.intro (flatten_snoc hx) (flatten_le bs (k + 1))))
      subst hxe
      have hki : (k : Int) < (n : Int) := by omega
      clear hcell hx hxv hxb
      go_wp2_with (first
        | (at_builtin
           go_must (
           refine (list_append_bs rfl (.tmp 11) (.tmp 15) rfl u3 (.slice XA x.length xc) (by rfl) (by rfl) HS.out.1 HX.out.1 (by have := HX.out.2.2; rw [HX.out.2.1, List.length_append] at this; omega) HS.out.2.size ?_)
           intro r3 w3 ho3 hgr3 hg3
           have HR3 := Lib.hid (And.intro ho3 (HS.out.2.grown hgr3 HS.out.2.size (fun k e => (World.ownsRow.lt HS.out.1 k e).1)))
           clear ho3 hgr3 hg3))
        | fail)
      go_roundw
      · exact ⟨k + 1, hkn, by simp, Lib.hid ⟨by rw [HX.out.2.1]; exact HR3.out.1, HR3.out.2⟩⟩
      · simp [intOf]; omega
    · have hke : bs.take k = bs := List.take_of_length_le (by omega)
      have HKE := Lib.hid hke
      clear hke
      go_wp2_with fail
      go_ret
      exact ⟨_, rfl, by have := HS.out.1; rw [HKE.out] at this; exact this, HS.out.2⟩

set_option maxRecDepth 100000 in
set_option maxHeartbeats 2000000 in
theorem equal_any {ok ok2 : Nat → Prop} {v u : Value} {gs : List G} {vs us : List Value} (w : World) (hv : Sl ok w v gs.length vs) (hvg : IsGs ok w gs vs) (hu : Sl ok2 w u gs.length us) (hug : IsGs ok2 w gs us) :
    Calls Tryd.prog 33 #[v, u] w fun e w' => e = .returned (.bool true) ∧ Below w.heap.size w w' := by
  obtain ⟨A, c, rfl, hc, hl2, hrow⟩ := hv
  obtain ⟨A2, c2, rfl, hc2, hl22, hrow2⟩ := hu
  have HR := Lib.hid (And.intro hrow (And.intro hrow2 (And.intro hvg hug)))
  clear hrow hrow2 hvg hug
  go_enter Tryd.func33, Tryd.ntmps33
  go_wp2_with fail
  go_loopw [5] (fun i W => ∃ k : Nat, k ≤ gs.length ∧ i = .int .i64 k ∧ Hid (Below w.heap.size w W)) (fun i _ => gs.length - (intOf i).toNat)
  case atStart => exact ⟨0, Nat.zero_le _, rfl, Lib.hid (Below.refl _ _)⟩
  case round =>
    obtain ⟨k, hk, rfl, HB⟩ := hrel
    by_cases hkn : k < gs.length
    · obtain ⟨x, hx⟩ : ∃ x, gs[k]? = some x := ⟨_, List.getElem?_eq_getElem hkn⟩
      obtain ⟨cx, hI, hat⟩ := HR.out.2.2.1.at k x hx
      obtain ⟨cy, hJ, hau⟩ := HR.out.2.2.2.at k x hx
      obtain ⟨i1, D1, m1, r1, D2, m2, r2, D3, m3, r3, rfl⟩ := geom_shape hI
      obtain ⟨i2, F1, s1, t1, F2, s2, t2, F3, s3, t3, rfl⟩ := geom_shape hJ
      obtain ⟨b, o, rfl, _, hbl, hc1⟩ := HR.out.1.at (by intro e; have := hat 0 _ rfl; rw [e] at this; simp at this)
      obtain ⟨b', o', rfl, _, hbl', hc3⟩ := HR.out.2.1.at (by intro e; have := hau 0 _ rfl; rw [e] at this; simp at this)
      have x0 := hc1 _ _ (hat 0 _ rfl)
      have x1 := hc1 _ _ (hat 1 _ rfl)
      have x2 := hc1 _ _ (hat 2 _ rfl)
      have x3 := hc1 _ _ (hat 3 _ rfl)
      have y0 := hc3 _ _ (hau 0 _ rfl)
      have y1 := hc3 _ _ (hau 1 _ rfl)
      have y2 := hc3 _ _ (hau 2 _ rfl)
      have y3 := hc3 _ _ (hau 3 _ rfl)
      rw [Nat.add_zero] at x0 y0
      rw [← Nat.add_assoc] at x1 x2 x3 y1 y2 y3
      have HSK : Hid (∀ W : World, Below w.heap.size w W → W.cell? ⟨b, o + k * 4, none⟩ = some (.int .i64 i1) ∧ W.cell? ⟨b, o + k * 4 + 1, none⟩ = some (.slice D1 m1 r1) ∧ W.cell? ⟨b, o + k * 4 + 2, none⟩ = some (.slice D2 m2 r2) ∧ W.cell? ⟨b, o + k * 4 + 3, none⟩ = some (.slice D3 m3 r3) ∧
          W.cell? ⟨b', o' + k * 4, none⟩ = some (.int .i64 i2) ∧ W.cell? ⟨b', o' + k * 4 + 1, none⟩ = some (.slice F1 s1 t1) ∧ W.cell? ⟨b', o' + k * 4 + 2, none⟩ = some (.slice F2 s2 t2) ∧ W.cell? ⟨b', o' + k * 4 + 3, none⟩ = some (.slice F3 s3 t3)) :=
        Lib.hid fun W hW => ⟨(hW.cell (p := ⟨b, o + k * 4, none⟩) hbl).trans x0, (hW.cell (p := ⟨b, o + k * 4 + 1, none⟩) hbl).trans x1, (hW.cell (p := ⟨b, o + k * 4 + 2, none⟩) hbl).trans x2, (hW.cell (p := ⟨b, o + k * 4 + 3, none⟩) hbl).trans x3,
          (hW.cell (p := ⟨b', o' + k * 4, none⟩) hbl').trans y0, (hW.cell (p := ⟨b', o' + k * 4 + 1, none⟩) hbl').trans y1, (hW.cell (p := ⟨b', o' + k * 4 + 2, none⟩) hbl').trans y2, (hW.cell (p := ⟨b', o' + k * 4 + 3, none⟩) hbl').trans y3⟩
      have hbd : Below w.heap.size w wr.drew := ⟨HB.out.os, HB.out.tape, HB.out.output, HB.out.size, HB.out.block⟩
      have HE := Lib.hid (Equal_same (depth x) x ok ok2 [.int .i64 i1, .slice D1 m1 r1, .slice D2 m2 r2, .slice D3 m3 r3] [.int .i64 i2, .slice F1 s1 t1, .slice F2 s2 t2, .slice F3 s3 t3] wr.drew (Nat.le_refl _) (hI.keeps (below_keeps hbd ok)) (hJ.keeps (below_keeps hbd ok2)))
      have HBD := Lib.hid hbd
      have hki : (k : Int) < (gs.length : Int) := by omega
      clear hc1 hc3 hat hau hI hJ hx hbd x0 x1 x2 x3 y0 y1 y2 y3
      go_upto_region 6 with (fail)
      go_cut [26] (fun z W => z = .bool false ∧ Hid (Below w.heap.size w W))
      case first =>
        go_region_held3 (fun W => W.cell? ⟨b, o + k * 4, none⟩ = some (.int .i64 i1) ∧ W.cell? ⟨b, o + k * 4 + 1, none⟩ = some (.slice D1 m1 r1) ∧ W.cell? ⟨b, o + k * 4 + 2, none⟩ = some (.slice D2 m2 r2) ∧ W.cell? ⟨b, o + k * 4 + 3, none⟩ = some (.slice D3 m3 r3) ∧
            W.cell? ⟨b', o' + k * 4, none⟩ = some (.int .i64 i2) ∧ W.cell? ⟨b', o' + k * 4 + 1, none⟩ = some (.slice F1 s1 t1) ∧ W.cell? ⟨b', o' + k * 4 + 2, none⟩ = some (.slice F2 s2 t2) ∧ W.cell? ⟨b', o' + k * 4 + 3, none⟩ = some (.slice F3 s3 t3))
          (first
            | exact HSK.out _ HBD.out
            | exact HSK.out _ HB9.out)
          ((first
            | (go_at_call 29
               refine HE.out.mono ?_
               rintro e w9 ⟨rfl, hb9⟩
               have HB9 := Lib.hid (HBD.out.trans (hb9.mono HBD.out.size))
               clear hb9)))
        all_goals
          go_wp2_with fail
          go_meet
          case rel => exact ⟨rfl, HB9⟩
      case rest =>
        obtain ⟨rfl, HBc⟩ := hcut
        go_wp2_with fail
        go_roundw
        · exact ⟨k + 1, hkn, by simp, HBc⟩
        · simp [intOf]; omega
    · go_wp2_with fail
      go_ret
      exact ⟨rfl, HB.out⟩
end Go.Proofs.YtlffgepnhhnadaaDoor.Pl
