/- tree's wrong, walked. What is handed in lies as lists (Mem). -/
import Derived.Test.YtlffgepnhhnadaaDoorTree
import Derived.WalkSmall
import Derived.Laws.IdiomStrings
namespace Go.Proofs.YtlffgepnhhnadaaDoor.Pl
open Go.RowKit

def wrongE (g : G) (level home total : Int) : Int :=
  if 256 < level then 151 else if listsB g = false ∨ fitsB g.kind home = false then 150 else if 65536 < total then 152
  else cond (g.line.all finP && g.rings.all (fun r => r.all finP)) 0 155

theorem quiet_of_eq {P : Program} {f : FuncId} {args : Array Value} {w : World} {n : Nat} {v : Value}
    (h : Calls P f args (w.drewN n) fun e w' => e = .returned v ∧ w.drewN n = w') : Calls P f args (w.drewN n) fun e w'' => e = .returned v ∧ ∃ m, w'' = w.drewN m :=
  h.mono fun _ _ ⟨he, hm⟩ => ⟨he, n, hm.symm⟩

/-- too deep -/
theorem wrong_deep {b o : Nat} {g : G} (level home total : Int) (w : World) (h1 : 256 < level) :
    Calls Tryd.prog 86 #[.agg #[.pointer (some ⟨b, o, none⟩), .int .i64 level, .int .i64 home], .int .i64 total] w fun e w' => e = .returned (.int .i64 (wrongE g level home total)) ∧ Below w.heap.size w w' := by
  unfold wrongE
  rw [if_pos h1]
  go_enter Tryd.func86, Tryd.ntmps86
  go_wp2
  go_ret
  exact ⟨rfl, (Below.refl _ _).alloc (Nat.le_refl _) _⟩

set_option maxRecDepth 100000 in
/-- of another shape -/
theorem wrong_shape {ok : Nat → Prop} {b o : Nat} {g : G} (level home total : Int) (w : World) (hg : AtG ok w b o g) (h1 : ¬ 256 < level) (h2 : listsB g = false ∨ fitsB g.kind home = false) :
    Calls Tryd.prog 86 #[.agg #[.pointer (some ⟨b, o, none⟩), .int .i64 level, .int .i64 home], .int .i64 total] w fun e w' => e = .returned (.int .i64 (wrongE g level home total)) ∧ Below w.heap.size w w' := by
  unfold wrongE
  rw [if_neg h1, if_pos h2]
  have hbl : Below w.heap.size w (w.alloc (.cells #[.pointer (some ⟨b, o, none⟩), .int .i64 level, .int .i64 home] 160)) := (Below.refl _ _).alloc (Nat.le_refl _) _
  have hg' := hg.keeps (below_keeps hbl ok)
  have hl := fun n => lists_any _ (hg'.keeps (below_keeps (below_drewN (Below.refl _ _) n) ok))
  have hf := fits_any g.kind home
  have c0 := hg'.choose_spec.choose_spec.choose_spec.2.2.1
  by_cases h3 : listsB g = false
  · rw [h3] at hl
    have HL := Lib.hid hl
    clear hl hf hg h2 hbl hg' h3
    go_enter Tryd.func86, Tryd.ntmps86
    go_wp2
    go_quiet ((go_at_call 104; exact quiet_of_eq (HL.out _)))
    go_wp2
    go_ret
    exact ⟨rfl, below_drewN ((Below.refl _ _).alloc (Nat.le_refl _) _) _⟩
  · have h4 : fitsB g.kind home = false := by rcases h2 with h | h; exact (h3 h).elim; exact h
    have h3' : listsB g = true := by simpa using h3
    rw [h3'] at hl
    rw [h4] at hf
    have HL := Lib.hid hl
    have HF := Lib.hid hf
    clear hl hf hg h2 hbl hg' h3 h3' h4
    go_enter Tryd.func86, Tryd.ntmps86
    go_wp2
    go_quiet ((first | (go_at_call 104; exact quiet_of_eq (HL.out _)) | (go_at_call 105; exact quiet_of_eq (HF.out _))))
    go_wp2
    go_ret
    exact ⟨rfl, below_drewN ((Below.refl _ _).alloc (Nat.le_refl _) _) _⟩

set_option maxRecDepth 100000 in
/-- in shape -/
theorem wrong_rest {ok : Nat → Prop} {b o : Nat} {g : G} (level home total : Int) (w : World) (hg : AtG ok w b o g) (h1 : ¬ 256 < level) (h2 : listsB g = true) (h3 : fitsB g.kind home = true) :
    Calls Tryd.prog 86 #[.agg #[.pointer (some ⟨b, o, none⟩), .int .i64 level, .int .i64 home], .int .i64 total] w fun e w' => e = .returned (.int .i64 (wrongE g level home total)) ∧ Below w.heap.size w w' := by
  have hW : wrongE g level home total = if 65536 < total then 152 else cond (g.line.all finP && g.rings.all (fun r => r.all finP)) 0 155 := by
    unfold wrongE
    rw [if_neg h1, if_neg (by simp [h2, h3])]
  rw [hW]
  clear hW
  have hbl : Below w.heap.size w (w.alloc (.cells #[.pointer (some ⟨b, o, none⟩), .int .i64 level, .int .i64 home] 160)) := (Below.refl _ _).alloc (Nat.le_refl _) _
  have hg' := hg.keeps (below_keeps hbl ok)
  have hl := fun n => lists_any _ (hg'.keeps (below_keeps (below_drewN (Below.refl _ _) n) ok))
  have hf := fits_any g.kind home
  rw [h2] at hl
  rw [h3] at hf
  obtain ⟨v1, v2, v3, hI, hb, c0, c1, c2, c3⟩ := hg'
  obtain ⟨kd, l, r, p⟩ := g
  simp only [IsG, G.kind] at hI c0
  obtain ⟨_, _, _, hv, hP, ⟨vs, hS2, hE⟩, _⟩ := hI
  simp only [List.cons.injEq, and_true, true_and] at hv
  obtain ⟨rfl, rfl, rfl⟩ := hv
  obtain ⟨A2, k2, rfl, hk2, hl2, hr2⟩ := hS2
  simp only [G.line, G.rings, G.kind] at hf ⊢
  have HL := Lib.hid hl
  have HF := Lib.hid hf
  have HFin := Lib.hid (fun W (hW : Below (w.heap.size + 1) (w.alloc (.cells #[.pointer (some ⟨b, o, none⟩), .int .i64 level, .int .i64 home] 160)) W) => finite_any W (hP.keeps (ok := ok) (Keeps.mono (below_keeps (by simpa using hW) (fun _ => True)) (fun _ _ _ => trivial))))
  have HE := Lib.hid hE
  have HR := Lib.hid hr2
  clear hl hf hg h2 h3 hbl hP hE hr2
  by_cases h4 : 65536 < total
  · rw [if_pos h4]
    go_enter Tryd.func86, Tryd.ntmps86
    go_wp2
    go_quiet ((first | (go_at_call 104; exact quiet_of_eq (HL.out _)) | (go_at_call 105; exact quiet_of_eq (HF.out _))))
    go_wp2
    go_ret
    exact ⟨rfl, below_drewN ((Below.refl _ _).alloc (Nat.le_refl _) _) _⟩
  · rw [if_neg h4]
    generalize hla : l.all finP = la at HFin ⊢
    cases la with
    | false =>
      clear hla
      go_enter Tryd.func86, Tryd.ntmps86
      go_wp2
      go_quiet ((first | (go_at_call 104; exact quiet_of_eq (HL.out _)) | (go_at_call 105; exact quiet_of_eq (HF.out _))))
      go_wp2_with fail
      refine (HFin.out _ (below_drewN (Below.refl _ _) _)).mono ?_
      rintro e w1 ⟨rfl, hb1⟩
      go_wp2
      go_ret
      exact ⟨rfl, (below_drewN ((Below.refl w.heap.size w).alloc (Nat.le_refl _) _) _).trans (hb1.mono (by simp))⟩
    | true =>
      clear hla
      go_enter Tryd.func86, Tryd.ntmps86
      go_wp2
      go_quiet ((first | (go_at_call 104; exact quiet_of_eq (HL.out _)) | (go_at_call 105; exact quiet_of_eq (HF.out _))))
      go_wp2_with fail
      refine (HFin.out _ (below_drewN (Below.refl _ _) _)).mono ?_
      rintro e w1 ⟨rfl, hb1⟩
      have hb2 : Below (w.heap.size + 1) (w.alloc (.cells #[.pointer (some ⟨b, o, none⟩), .int .i64 level, .int .i64 home] 160)) w1 := (below_drewN (Below.refl _ _) _).trans (by simpa using hb1)
      have k0 := (hb2.cell (p := ⟨w.heap.size, 0, none⟩) (by simp)).trans (World.cell?_alloc_mark w _ _ _ 0)
      have k2' := (hb2.cell (p := ⟨b, o + 2, none⟩) (by simpa using lt_of_cell c2)).trans c2
      go_wp2
      go_loopw [44] (fun i wr => ∃ k : Nat, k ≤ r.length ∧ i = .int .i64 k ∧ Hid ((r.take k).all (fun r => r.all finP) = true) ∧ Below (w.heap.size + 1) (w.alloc (.cells #[.pointer (some ⟨b, o, none⟩), .int .i64 level, .int .i64 home] 160)) wr) (fun i _ => r.length - (intOf i).toNat)
      case atStart => exact ⟨0, Nat.zero_le _, rfl, by simp [Hid], hb2⟩
      case round =>
        obtain ⟨k, hk, rfl, HT, hbl⟩ := hrel
        by_cases hlt : k < r.length
        · obtain ⟨x, hx⟩ : ∃ x, r[k]? = some x := ⟨_, List.getElem?_eq_getElem hlt⟩
          obtain ⟨v, hv, hPx⟩ := HE.out.at k x hx
          have hfx := finite_any wr (hPx.keeps (Keeps.mono (below_keeps (w' := wr) (by simpa using hbl) (fun _ => True)) (fun _ _ _ => trivial)))
          obtain ⟨b2, o2, rfl, _, hb2', hcell⟩ := HR.out.at (by rintro rfl; simp at hv)
          have cc := (hbl.cell (p := ⟨b2, o2 + k, none⟩) (by simpa using hb2')).trans (hcell k _ hv)
          have HX := Lib.hid hx
          clear hcell hv hx hPx
          rcases Bool.eq_false_or_eq_true (x.all finP) with hxa | hxa
          · rw [hxa] at hfx
            have HXA := Lib.hid hxa
            have HFX := Lib.hid hfx
            clear hxa hfx
            go_wp2_with fail
            refine HFX.out.mono ?_
            rintro e w2 ⟨rfl, hb3⟩
            go_wp2
            go_roundw
            case rel => exact ⟨k + 1, by omega, by go_num, all_next HX.out HXA.out HT.out, hbl.trans (hb3.mono (by simpa using hbl.size))⟩
            case measure => simp [intOf]; omega
          · rw [hxa] at hfx
            have HXA := Lib.hid hxa
            have HFX := Lib.hid hfx
            clear hxa hfx
            go_wp2_with fail
            refine HFX.out.mono ?_
            rintro e w2 ⟨rfl, hb3⟩
            go_wp2
            go_ret
            exact ⟨ret_int (by rw [all_no (f := fun r : List Pt => r.all finP) HX.out HXA.out]; rfl), ((Below.refl w.heap.size w).alloc (Nat.le_refl _) _).trans ((hbl.mono (by omega)).trans (hb3.mono (by have := hbl.size; simp at this; omega)))⟩
        · go_wp2
          go_ret
          exact ⟨ret_int (by rw [all_end (f := fun r : List Pt => r.all finP) hk hlt HT.out]; rfl), ((Below.refl w.heap.size w).alloc (Nat.le_refl _) _).trans (hbl.mono (by omega))⟩

theorem wrong_any {ok : Nat → Prop} {b o : Nat} {g : G} (level home total : Int) (w : World) (hg : AtG ok w b o g) :
    Calls Tryd.prog 86 #[.agg #[.pointer (some ⟨b, o, none⟩), .int .i64 level, .int .i64 home], .int .i64 total] w fun e w' => e = .returned (.int .i64 (wrongE g level home total)) ∧ Below w.heap.size w w' := by
  by_cases h1 : 256 < level
  · exact wrong_deep level home total w h1
  · by_cases h2 : listsB g = false ∨ fitsB g.kind home = false
    · exact wrong_shape level home total w hg h1 h2
    · have h3 : listsB g = true := by
        cases h : listsB g with
        | true => rfl
        | false => exact (h2 (.inl h)).elim
      have h4 : fitsB g.kind home = true := by
        cases h : fitsB g.kind home with
        | true => rfl
        | false => exact (h2 (.inr h)).elim
      exact wrong_rest level home total w hg h1 h3 h4
end Go.Proofs.YtlffgepnhhnadaaDoor.Pl
