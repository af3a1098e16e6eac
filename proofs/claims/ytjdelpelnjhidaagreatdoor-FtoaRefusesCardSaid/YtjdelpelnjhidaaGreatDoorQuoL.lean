/- quot: long division, Knuth's algorithm D: the jumps of its text, its frame, plain laws of a round. -/
import Derived.Test.YtjdelpelnjhidaaGreatDoorQuoB
import Derived.ScopeJumps
import Derived.WalkMore
namespace Go.Proofs.YtjdelpelnjhidaaGreatDoor.Pl
open Go.RowKit
/-- As Q; by a goto to a label: what J says of it. -/
def jumpsTo (J : Nat → Act → World → Prop) (Q : Exit → Act → World → Prop) : Exit → Act → World → Prop
  | .goto l, a, w => J l a w
  | e, a, w => Q e a w
theorem jumpsTo_imp {J J' : Nat → Act → World → Prop} {Q : Exit → Act → World → Prop} (h : ∀ l a w, J l a w → J' l a w) : ∀ (e : Exit) (a : Act) (w : World), jumpsTo J Q e a w → jumpsTo J' Q e a w := fun e a w k => by
  cases e <;> first | exact k | exact h _ _ _ k
/-- a scope with labels among which the run jumps: what holds at every jump, and a measure that every pass lowers -/
theorem wp_scope_labels {P : Program} {a : Act} {w : World} {Q : Exit → Act → World → Prop} {c : Code} (J : Nat → Act → World → Prop) (μ : Nat → Act → World → Nat)
    (first : c.wp P (jumpsTo J Q) a w)
    (pass : ∀ l a w, J l a w → ∃ rest, findLabel c l = some rest ∧ rest.wp P (jumpsTo (fun l' a' w' => J l' a' w' ∧ μ l' a' w' < μ l a w) Q) a w) : (Code.scope c).wp P Q a w := by
  intro b k cs
  have hg : ∀ l rest, findLabel c l = some rest → gotoIn l (.inScope c :: k) = some (.code rest :: .inScope c :: k) := fun l rest hf => by simp [gotoIn, hf]
  have key : ∀ n l a w, μ l a w = n → J l a w → ∀ rest, findLabel c l = some rest → ∃ e a' w', Q e a' w' ∧ Arrives P (lone (b.at a (.code rest :: .inScope c :: k)) cs w) b k cs e a' w' := by
    intro n
    induction n using Nat.strongRecOn with
    | _ n ih =>
      intro l a w hn hJ rest hrest
      obtain ⟨rest', hf, hpass⟩ := pass l a w hJ
      rw [hrest] at hf
      cases hf
      obtain ⟨e, a₁, w₁, hq, harr⟩ := hpass b (.inScope c :: k) cs
      cases e with
      | normal => exact ⟨.normal, a₁, w₁, hq, Steps.trans harr (.one step_inScope)⟩
      | exit id => exact ⟨.exit id, a₁, w₁, hq, fun k' hk => harr k' (by simp [exitTo, hk])⟩
      | goto l' =>
        obtain ⟨hJ', hlt⟩ := hq
        obtain ⟨rest2, hf2, _⟩ := pass l' a₁ w₁ hJ'
        obtain ⟨e₂, a₂, w₂, hq₂, harr₂⟩ := ih _ (by omega) l' a₁ w₁ rfl hJ' rest2 hf2
        exact ⟨e₂, a₂, w₂, hq₂, .of_steps (harr _ (hg _ _ hf2)) harr₂⟩
      | ret => exact ⟨_, a₁, w₁, hq, harr⟩
      | panic ch => exact ⟨_, a₁, w₁, hq, harr⟩
      | outgrown => exact ⟨_, a₁, w₁, hq, harr⟩
  obtain ⟨e, a₁, w₁, hq, harr⟩ := first b (.inScope c :: k) cs
  cases e with
  | normal => exact ⟨.normal, a₁, w₁, hq, .head step_scope (Steps.trans harr (.one step_inScope))⟩
  | exit id => exact ⟨.exit id, a₁, w₁, hq, fun k' hk => .head step_scope (harr k' (by simp [exitTo, hk]))⟩
  | goto l' =>
    obtain ⟨rest2, hf2, _⟩ := pass l' a₁ w₁ hq
    obtain ⟨e₂, a₂, w₂, hq₂, harr₂⟩ := key _ l' a₁ w₁ rfl hq rest2 hf2
    exact ⟨e₂, a₂, w₂, hq₂, .of_steps (.head step_scope (harr _ (hg _ _ hf2))) harr₂⟩
  | ret => exact ⟨_, a₁, w₁, hq, .of_steps (.one step_scope) harr⟩
  | panic ch => exact ⟨_, a₁, w₁, hq, .of_steps (.one step_scope) harr⟩
  | outgrown => exact ⟨_, a₁, w₁, hq, .of_steps (.one step_scope) harr⟩
/-- a pass from a label to the next jump -/
def PassL (P : Program) (c : Code) (J : Nat → Act → World → Prop) (μ : Nat → Act → World → Nat) (Q : Exit → Act → World → Prop) (l : Nat) (a : Act) (w : World) : Prop :=
  ∃ rest, findLabel c l = some (.seq .skip rest) ∧ rest.wp P (jumpsTo (fun l' a' w' => J l' a' w' ∧ μ l' a' w' < μ l a w) Q) a w
theorem PassL.raw {P : Program} {c : Code} {J : Nat → Act → World → Prop} {μ : Nat → Act → World → Nat} {Q : Exit → Act → World → Prop} {l : Nat} {a : Act} {w : World} (h : PassL P c J μ Q l a w) :
    ∃ rest, findLabel c l = some rest ∧ rest.wp P (jumpsTo (fun l' a' w' => J l' a' w' ∧ μ l' a' w' < μ l a w) Q) a w := by
  obtain ⟨r, h1, h2⟩ := h
  exact ⟨_, h1, wp_seq (wp_skip h2)⟩
theorem wp_scope_four {P : Program} {a : Act} {w : World} {Q : Exit → Act → World → Prop} {c : Code} (J : Nat → Act → World → Prop) (μ : Nat → Act → World → Nat) (hJ : ∀ l a w, J l a w → l = 0 ∨ l = 1 ∨ l = 2 ∨ l = 3)
    (p0 : ∀ a w, J 0 a w → PassL P c J μ Q 0 a w) (p2 : ∀ a w, J 2 a w → PassL P c J μ Q 2 a w)
    (p3 : (∀ a w, J 2 a w → PassL P c J μ Q 2 a w) → ∀ a w, J 3 a w → PassL P c J μ Q 3 a w)
    (p1 : (∀ a w, J 3 a w → PassL P c J μ Q 3 a w) → ∀ a w, J 1 a w → PassL P c J μ Q 1 a w)
    (first : (∀ a w, J 1 a w → PassL P c J μ Q 1 a w) → c.wp P (jumpsTo J Q) a w) : (Code.scope c).wp P Q a w := by
  have q3 := p3 p2
  have q1 := p1 q3
  refine wp_scope_labels J μ (first q1) fun l a w h => ?_
  rcases hJ l a w h with rfl | rfl | rfl | rfl
  · exact (p0 a w h).raw
  · exact (q1 a w h).raw
  · exact (p2 a w h).raw
  · exact (q3 a w h).raw
/-- a label is come to without a jump -/
theorem fall_in {P : Program} {c rest : Code} {J : Nat → Act → World → Prop} {μ : Nat → Act → World → Nat} {Q Q2 : Exit → Act → World → Prop} {l : Nat} {a : Act} {w : World} (H : PassL P c J μ Q l a w) (hf : findLabel c l = some (.seq .skip rest)) (himp : ∀ (e : Exit) (a' : Act) (w' : World), jumpsTo (fun l' a' w' => J l' a' w' ∧ μ l' a' w' < μ l a w) Q e a' w' → Q2 e a' w') : rest.wp P Q2 a w := by
  obtain ⟨r, h1, h2⟩ := H
  rw [hf] at h1
  cases h1
  exact Code.wp_mono himp h2
/-- the frame of the long division: its variables, and the rest -/
def frL (t0 t1 t2 t3 t4 t5 t6 t7 t8 t9 t10 t11 t12 t13 t14 t15 t16 : Value) (u : Nat → Value) : Act := { tmps := #[t0, t1, t2, t3, t4, t5, t6, t7, t8, t9, t10, t11, t12, t13, t14, t15, t16, u 17, u 18, u 19, u 20, u 21, u 22, u 23, u 24, u 25, u 26, u 27, u 28, u 29, u 30, u 31, u 32, u 33, u 34, u 35, u 36, u 37, u 38, u 39, u 40, u 41, u 42, u 43, u 44, u 45, u 46, u 47, u 48, u 49, u 50, u 51, u 52, u 53, u 54, u 55, u 56, u 57, u 58, u 59, u 60, u 61, u 62, u 63, u 64, u 65, u 66, u 67, u 68, u 69, u 70, u 71, u 72, u 73, u 74, u 75, u 76, u 77, u 78, u 79, u 80, u 81, u 82, u 83, u 84, u 85, u 86, u 87, u 88, u 89, u 90, u 91, u 92, u 93, u 94, u 95, u 96, u 97, u 98, u 99, u 100, u 101, u 102, u 103, u 104, u 105, u 106, u 107, u 108, u 109, u 110, u 111, u 112, u 113, u 114, u 115, u 116, u 117, u 118, u 119, u 120, u 121, u 122, u 123, u 124, u 125, u 126, u 127, u 128, u 129, u 130, u 131, u 132, u 133, u 134, u 135, u 136, u 137, u 138, u 139, u 140, u 141, u 142, u 143, u 144, u 145, u 146, u 147, u 148, u 149, u 150, u 151, u 152, u 153, u 154, u 155, u 156, u 157, u 158, u 159, u 160, u 161, u 162, u 163, u 164, u 165, u 166, u 167], defers := [] }
def tailL (a : Act) : Nat → Value := fun i => a.tmps.getD i undef

set_option maxRecDepth 100000 in
theorem cmpw4_any (a b c d : Nat) (w : World) (hb : b < 18446744073709551616) (hd : d < 18446744073709551616) : Calls Tryz.prog 121 #[.int .u64 a, .int .u64 b, .int .u64 c, .int .u64 d] w fun e w' => (∃ z : Int, e = .returned (.int .i64 z) ∧ (z ≤ 0 ↔ 18446744073709551616 * a + b ≤ 18446744073709551616 * c + d) ∧ -1 ≤ z ∧ z ≤ 1) ∧ w = w' := by
  go_enter Tryz.func121, Tryz.ntmps121
  go_wp2_with fail
  all_goals
    go_ret
    simp only [beq_iff_eq, beq_eq_false_iff_ne, ne_eq] at *
    refine ⟨⟨_, rfl, ?_, by decide, by decide⟩, by trivial⟩
    constructor
    · intro h; omega
    · intro h; omega
/-- a piece of a number: what lies below it, itself, and nothing above -/
theorem piece {U : List Nat} {j n : Nat} {M : Nat} (hU : W64 U) (hl : j + n + 1 ≤ U.length) (hM : M < 18446744073709551616 ^ n) (hlt : val U < 18446744073709551616 ^ (j + 1) * M) :
    ∃ pre P post, U = pre ++ P ++ post ∧ pre.length = j ∧ P.length = n + 1 ∧ W64 pre ∧ W64 P ∧ W64 post ∧ val post = 0 ∧ val U = val pre + 18446744073709551616 ^ j * val P ∧ val pre < 18446744073709551616 ^ j ∧ val P < 18446744073709551616 * M := by
  have e1 : U = U.take j ++ (U.drop j).take (n + 1) ++ (U.drop j).drop (n + 1) := by rw [List.append_assoc, List.take_append_drop, List.take_append_drop]
  have l1 : (U.take j).length = j := by rw [List.length_take]; omega
  have l2 : ((U.drop j).take (n + 1)).length = n + 1 := by rw [List.length_take, List.length_drop]; omega
  have w1 := hU.take j
  have w2 := (hU.drop j).take (n + 1)
  have w3 := (hU.drop j).drop (n + 1)
  generalize U.take j = pre at *
  generalize (U.drop j).take (n + 1) = P at *
  generalize (U.drop j).drop (n + 1) = post at *
  subst e1
  have hv : val (pre ++ P ++ post) = val pre + 18446744073709551616 ^ j * val P + 18446744073709551616 ^ (j + (n + 1)) * val post := by
    rw [val_append, val_append, List.length_append, l1, l2]
  have hp : val post = 0 := by
    rcases Nat.eq_zero_or_pos (val post) with h | h
    · exact h
    · have h1 : 18446744073709551616 ^ (j + (n + 1)) * 1 ≤ 18446744073709551616 ^ (j + (n + 1)) * val post := Nat.mul_le_mul_left _ h
      have h2 : 18446744073709551616 ^ (j + 1) * M < 18446744073709551616 ^ (j + 1) * 18446744073709551616 ^ n := Nat.mul_lt_mul_of_pos_left hM (pow_pos64 _)
      rw [← Nat.pow_add, show j + 1 + n = j + (n + 1) by omega] at h2
      omega
  rw [hp, Nat.mul_zero, Nat.add_zero] at hv
  have hpre := val_lt w1
  rw [l1] at hpre
  refine ⟨pre, P, post, rfl, l1, l2, w1, w2, w3, hp, hv, hpre, ?_⟩
  rw [hv, Nat.pow_succ, Nat.mul_assoc] at hlt
  have h3 : 18446744073709551616 ^ j * val P < 18446744073709551616 ^ j * (18446744073709551616 * M) := by omega
  exact Nat.lt_of_mul_lt_mul_left h3
/-- the top words of a list -/
theorem top2 {V : List Nat} {n : Nat} (hn : V.length = n) (h2 : 2 ≤ n) : ∃ v1 v0, V[n - 1]? = some v1 ∧ V[n - 2]? = some v0 ∧ val V = (18446744073709551616 * v1 + v0) * 18446744073709551616 ^ (n - 2) + val (V.take (n - 2)) := by
  obtain ⟨v1, h1⟩ : ∃ v1, V[n - 1]? = some v1 := ⟨_, List.getElem?_eq_getElem (by omega)⟩
  obtain ⟨v0, h0⟩ : ∃ v1, V[n - 2]? = some v1 := ⟨_, List.getElem?_eq_getElem (by omega)⟩
  refine ⟨v1, v0, h1, h0, ?_⟩
  have e1 := val_take_succ V (n - 1) v1 h1
  have e0 := val_take_succ V (n - 2) v0 h0
  rw [show n - 1 + 1 = n by omega, ← hn, List.take_length, hn] at e1
  rw [show n - 2 + 1 = n - 1 by omega] at e0
  rw [e1, e0, show n - 1 = n - 2 + 1 by omega, Nat.pow_succ]
  grind
theorem top3 {P : List Nat} {n : Nat} (hn : P.length = n + 1) (h2 : 2 ≤ n) : ∃ u2 u1 u0, P[n]? = some u2 ∧ P[n - 1]? = some u1 ∧ P[n - 2]? = some u0 ∧ val P = (18446744073709551616 * (18446744073709551616 * u2 + u1) + u0) * 18446744073709551616 ^ (n - 2) + val (P.take (n - 2)) := by
  obtain ⟨u2, hu2⟩ : ∃ v1, P[n]? = some v1 := ⟨_, List.getElem?_eq_getElem (by omega)⟩
  obtain ⟨u1, h1⟩ : ∃ v1, P[n - 1]? = some v1 := ⟨_, List.getElem?_eq_getElem (by omega)⟩
  obtain ⟨u0, h0⟩ : ∃ v1, P[n - 2]? = some v1 := ⟨_, List.getElem?_eq_getElem (by omega)⟩
  refine ⟨u2, u1, u0, hu2, h1, h0, ?_⟩
  have e2 := val_take_succ P n u2 hu2
  have e1 := val_take_succ P (n - 1) u1 h1
  have e0 := val_take_succ P (n - 2) u0 h0
  rw [← hn, List.take_length] at e2
  rw [show n - 1 + 1 = n by omega] at e1
  rw [show n - 2 + 1 = n - 1 by omega] at e0
  rw [e2, e1, e0, show (18446744073709551616 : Nat) ^ n = 18446744073709551616 ^ (n - 2) * 18446744073709551616 * 18446744073709551616 by rw [← Nat.pow_succ, ← Nat.pow_succ]; congr 1; omega, show n - 1 = n - 2 + 1 by omega, Nat.pow_succ]
  grind
end Go.Proofs.YtjdelpelnjhidaaGreatDoor.Pl
