/- plumblaw27's StreamHeads holds: the row, and the card that ties the error type's handle. No conditions beyond the card's own. -/
import Derived.Test.YtlffgepnhhnadaaDoorOpenS
import Derived.Test.YtlffgepnhhnadaaDoorTie
import Derived.Test.YtlffgepnhhnadaaDoorCards
import Derived.Test.YtlffgepnhhnadaaDoorHeads
namespace Go.Proofs.YtlffgepnhhnadaaDoor.Pl
open Go.ChangeShapes Go.WideShapes Go.ChangeAt Go.RowKit

set_option maxRecDepth 100000 in
theorem streamHeads_lifted (os : Os) (started : os.Started) (H : Type) (enc : TypeId × Value → H) :
    ReturnsInHanded {} Tryd.checked os 10 .any (fun w args => (Rows.streamHeadsSpec.pre enc Tryd.prog Tryd.f10 [] false w args ∧ laidMetH Tryd.prog Rows.streamHeadsRow.laid w) ∧ sizedMet enc Tryd.prog Tryd.f10 (OpenSpec.ofChange Rows.streamHeadsSpec) false w args)
      (Rows.streamHeadsSpec.post enc Tryd.prog Tryd.f10 false true false false) := by
  refine returnsInHanded_of_change_and (C := Tryd.checked) (X := fun w _ => laidMetH Tryd.prog Rows.streamHeadsRow.laid w) (fun _ _ _ hh h => h.of_heap hh) own started (by kernel_rfl) Tryd.func10
    (ChangeSpec.witness_at (enc := enc) (C := Tryd.checked) (os := os) (X := fun w _ => laidMetH Tryd.prog Rows.streamHeadsRow.laid w) false (laidWorld os) #[.slice none 0 0, .int .u32 0, .int .u32 0] 8 rfl (by kernel_rfl) (by kernel_rfl) (by kernel_rfl) (by kernel_rfl) (by kernel_rfl) (laidWorld_met os _)) ?_
  intro W base args ds gs before hval0 hW _ hsz0 hL _
  have hsz : (DataW.weightsEach Tryd.prog (Tryd.f10.params.toList ++ []) (ds ++ gs)).all (· ≤ reachBytes) = true := hsz0
  have hval : ∀ (j : Nat) t v, Tryd.f10.params[j]? = some t → args[j]? = some v → Value.okWide Tryd.prog W .any base t v := hval0
  have hW' := hW
  obtain ⟨p, q, hA0, hV0, rfl, hfz, hnd⟩ := hW
  have hA : DataW.TrodAll enc Tryd.prog W 0 (fun _ => true) true Tryd.f10.params.toList args.toList ds p := hA0
  have hV : DataW.TrodVars enc Tryd.prog W (fun _ => true) [] gs q := hV0
  rw [Tryd.params10] at hA hval hsz
  have hlt := DataW.TrodAll.lt hA
  obtain ⟨v0, v1, v2, d0, d1, d2, p0, p1, p2, rfl, rfl, rfl, h0, h1, h2⟩ := trodAll_three hA
  obtain ⟨rfl, rfl⟩ := trodVars_none hV
  obtain ⟨l0, k0⟩ := open_shapes (hval 0 38 v0 rfl rfl) h0 (fun n hn => of_decide_eq_true (List.all_eq_true.1 hsz n (DataW.weights_mem_each (j := 0) rfl rfl n hn)))
  obtain ⟨a1, rfl, rfl, rfl, w1⟩ := open_int Tryd.underlying56 (hval 1 56 v1 rfl rfl) h1
  have u1 := bounds_u32 w1
  obtain ⟨b1, rfl⟩ : ∃ b : Nat, a1 = b := ⟨a1.toNat, by omega⟩
  obtain ⟨a2, rfl, rfl, rfl, w2⟩ := open_int Tryd.underlying56 (hval 2 56 v2 rfl rfl) h2
  have u2 := bounds_u32 w2
  obtain ⟨b2, rfl⟩ : ∃ b : Nat, a2 = b := ⟨a2.toNat, by omega⟩
  clear hA0 hval0
  simp only [List.append_nil] at hW'
  refine (heads_any b1 b2 W k0 (by omega) (by omega) (errT_of_laid hL)).mono fun e W' ⟨he, hg⟩ => ?_
  subst he
  exact ⟨_, rfl, _, _, _, [], _, [], hW', trodAll_cons_mk (shut_bool Tryd.underlying4 _) trodAll_mk0,
    (trodAll_cons_mk (Below.trod laidOut (by kernel_rfl) (of_decide_eq_true (by kernel_rfl)) h0 hg (fun x hx => hlt x (by simp [hx]))) (trodAll_cons_mk (shut_int Tryd.underlying56 w1) (trodAll_cons_mk (shut_int Tryd.underlying56 w2) trodAll_mk0))), rfl, hg.frame _, fun h => by cases h⟩

theorem streamHeads_over : Rows.streamHeadsRow.holds Tryd.pinned (OpenSpec.ofChange Rows.streamHeadsSpec) :=
  OpenClaim.holds_of_wide 10 Tryd.f10 rfl rfl rfl rfl rfl rfl rfl ⟨rfl, rfl, rfl, rfl, rfl⟩ rfl rfl rfl rfl rfl (by kernel_rfl) Tryd.func10 (by kernel_rfl)
    (of_decide_eq_true (by kernel_rfl)) (by unfold Func.isWrapper; rw [if_neg (of_decide_eq_false (by kernel_rfl))]; exact ⟨rfl, rfl⟩)
    (fun os started H enc _ => streamHeads_lifted os started H enc)

theorem streamHeads_proved : Rows.StreamHeadsCardSaid :=
  Claim7.holds_tied_plain_at .later [] [.handle] true (true, "8294e2b4f09e4711e7cc9e853072d8ff0963710fc9a959f478cedd60eca7b26c") true
    streamHeads_over (fun _ h => by cases h) (by kernel_rfl) (fun _ h => by cases h) streamHeads_row_tie rfl ⟨rfl, rfl⟩ (by kernel_rfl) rfl
    (fun f fn hf hfn => by
      obtain rfl : f = 10 := Option.some.inj ((show Tryd.prog.funcNamed "plumb/plumblaw27.StreamHeads" = some 10 by kernel_rfl).symm.trans hf) |>.symm
      obtain rfl : fn = Tryd.f10 := (Option.some.inj (Tryd.func10.symm.trans hfn)).symm
      exact ⟨by kernel_rfl, fun j t ht => by
        rw [Tryd.params10] at ht
        have h3 : t = 38 ∨ t = 56 := by
          rcases j with _ | _ | _ | j
          · left; simpa using ht.symm
          · right; simpa using ht.symm
          · right; simpa using ht.symm
          · simp at ht
        rcases h3 with rfl | rfl
        · exact (show Tryd.prog.wantsStandIn 38 = false by kernel_rfl)
        · exact (show Tryd.prog.wantsStandIn 56 = false by kernel_rfl)⟩)
    (by kernel_rfl)
#print axioms streamHeads_proved
end Go.Proofs.YtlffgepnhhnadaaDoor.Pl
