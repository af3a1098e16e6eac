/- wide: products. -/
import Derived.Test.YtjdelpelnjhidaaGreatDoorWideE
import Derived.Test.YtjdelpelnjhidaaGreatDoorNumM
import Derived.Test.YtjdelpelnjhidaaGreatDoorF64
namespace Go.Proofs.YtjdelpelnjhidaaGreatDoor.Pl
open Go.RowKit
/-- halves of words -/
def v32 : List Nat → Nat
  | [] => 0
  | x :: l => x + 4294967296 * v32 l
def W32 (l : List Nat) : Prop := ∀ x ∈ l, x < 4294967296
theorem v32_set {l : List Nat} {k x : Nat} (y : Nat) (h : l[k]? = some x) : v32 (l.set k y) + 4294967296 ^ k * x = v32 l + 4294967296 ^ k * y := by
  induction l generalizing k with
  | nil => simp at h
  | cons a l ih =>
    cases k with
    | zero => simp at h; subst h; simp [v32]; omega
    | succ k =>
      have := ih (k := k) (by simpa using h)
      simp only [List.set_cons_succ, v32, Nat.pow_succ]
      grind
theorem v32_append (a b : List Nat) : v32 (a ++ b) = v32 a + 4294967296 ^ a.length * v32 b := by
  induction a with
  | nil => simp [v32]
  | cons x a ih => simp only [List.cons_append, v32, ih, List.length_cons, Nat.pow_succ]; grind
theorem v32_take_succ {l : List Nat} {k x : Nat} (hk : l[k]? = some x) : v32 (l.take (k + 1)) = v32 (l.take k) + 4294967296 ^ k * x := by
  have hl := (List.getElem?_eq_some_iff.1 hk).1
  rw [List.take_add_one, hk, v32_append]
  simp [v32, Nat.min_eq_left (Nat.le_of_lt hl)]
/-- an array of words in a block of the call's own -/
def Ar (w : World) (b t : Nat) (l : List Nat) : Prop := w.heap[b]? = some (.cells ((l.map uv).toArray) t (0, 0))
theorem Ar.cell {w : World} {b t : Nat} {l : List Nat} (h : Ar w b t l) {i x : Nat} (hi : l[i]? = some x) : w.cell? ⟨b, i, none⟩ = some (.int .u64 x) := by
  rw [cell_of_row w b i _ _ (0, 0) h]
  simpa using uv_get l i x hi
theorem Ar.free {w : World} {b t : Nat} {l : List Nat} (h : Ar w b t l) (i : Nat) : w.frozen? ⟨b, i, none⟩ = false := frozen_of_row w b i _ _ h
theorem Ar.set {w : World} {b t : Nat} {l : List Nat} (h : Ar w b t l) (i x : Nat) : Ar (w.setCell ⟨b, i, none⟩ (.int .u64 x)) b t (l.set i x) := by
  have := heap_setCell_same w b i _ _ (.int .u64 x) h
  unfold Ar
  rw [this]
  simp [uv, List.map_set]
theorem Ar.other {w : World} {b t : Nat} {l : List Nat} (h : Ar w b t l) {a : Addr} (u : Value) (ha : b ≠ a.block) : Ar (w.setCell a u) b t l := by
  unfold Ar
  rw [heap_setCell_other w a b u ha]; exact h
theorem Ar.below {w w' : World} {b t B : Nat} {l : List Nat} (h : Ar w b t l) (k : Below B w w') (hb : b < B) : Ar w' b t l := (k.block b hb).trans h
theorem Ar.lt {w : World} {b t : Nat} {l : List Nat} (h : Ar w b t l) : b < w.heap.size := lt_of_heap h
theorem prod_step {l : List Nat} {i j x y o c V Y : Nat} (hg : l[i + j]? = some o) (hv : v32 l + 4294967296 ^ (i + j) * c = V + x * 4294967296 ^ i * Y) :
    v32 (l.set (i + j) ((x * y + o + c) % 4294967296)) + 4294967296 ^ (i + (j + 1)) * ((x * y + o + c) / 4294967296) = V + x * 4294967296 ^ i * (Y + 4294967296 ^ j * y) := by
  have h1 := v32_set ((x * y + o + c) % 4294967296) hg
  have h2 : 4294967296 ^ (i + (j + 1)) * ((x * y + o + c) / 4294967296) = 4294967296 ^ (i + j) * (4294967296 * ((x * y + o + c) / 4294967296)) := by rw [show i + (j + 1) = (i + j) + 1 by omega, Nat.pow_succ]; grind
  have h3 : x * 4294967296 ^ i * (Y + 4294967296 ^ j * y) = x * 4294967296 ^ i * Y + 4294967296 ^ (i + j) * (x * y) := by rw [Nat.pow_add]; grind
  have h4 : 4294967296 ^ (i + j) * ((x * y + o + c) % 4294967296) + 4294967296 ^ (i + j) * (4294967296 * ((x * y + o + c) / 4294967296)) = 4294967296 ^ (i + j) * (x * y) + 4294967296 ^ (i + j) * o + 4294967296 ^ (i + j) * c := by
    rw [← Nat.mul_add, Nat.mod_add_div]; grind
  rw [h2, h3]
  omega
theorem wrap3 (x y o c : Nat) (h : x * y + o + c < 18446744073709551616) : IntKind.u64.wrap (IntKind.u64.wrap (IntKind.u64.wrap ((x : Int) * y) + o) + c) = ((x * y + o + c : Nat) : Int) := by
  rw [← Int.natCast_mul]
  simp only [IntKind.wrap_u64]
  omega
theorem half_prod {x y o c : Nat} (hx : x < 4294967296) (hy : y < 4294967296) (ho : o < 4294967296) (hc : c < 4294967296) : x * y + o + c < 18446744073709551616 := by
  have : x * y ≤ 4294967295 * 4294967295 := Nat.mul_le_mul (by omega) (by omega)
  omega
theorem W32.set {l : List Nat} (h : W32 l) (i : Nat) {x : Nat} (hx : x < 4294967296) : W32 (l.set i x) := fun y hy => by
  rcases List.mem_or_eq_of_mem_set hy with hy | rfl
  · exact h y hy
  · exact hx
theorem and_half (x : Nat) (h : x < 18446744073709551616) : bits .and .u64 (x : Int) 4294967295 = ((x % 4294967296 : Nat) : Int) := by
  have := bits_mask .u64 64 (by decide) wraps_u64 32 (by decide) (x : Int) (by omega) (by omega)
  exact this.trans (by omega)
theorem Ar.new (w : World) (t : Nat) (l : List Nat) : Ar (w.alloc (.cells ((l.map uv).toArray) t (0, 0))) w.heap.size t l := World.alloc_heap_new _ _
theorem or_halves (a b : Nat) (ha : a < 4294967296) (hb : b < 4294967296) : bits .or .u64 (IntKind.u64.wrap ((a : Int) * 4294967296)) (b : Int) = ((a * 4294967296 + b : Nat) : Int) := by
  have h1 : IntKind.u64.wrap ((a : Int) * 4294967296) = ((a * 4294967296 : Nat) : Int) := by simp only [IntKind.wrap_u64]; omega
  rw [h1, u64_or_nat _ _ (by omega) (by omega)]
  have := or_shl a b 32 (by decide) hb
  rw [show a * 2 ^ 32 % 18446744073709551616 = a * 4294967296 by omega] at this
  rw [this]
theorem list4 {l : List Nat} {a b c d : Nat} (h : l.length = 4) (h0 : l[0]? = some a) (h1 : l[1]? = some b) (h2 : l[2]? = some c) (h3 : l[3]? = some d) : l = [a, b, c, d] := by
  match l, h with
  | [x, y, z, t], _ => simp at h0 h1 h2 h3; subst h0 h1 h2 h3; rfl
theorem Ar.new' (w : World) (t : Nat) (l : List Nat) {n : Nat} (h : n = w.heap.size) : Ar (w.alloc (.cells ((l.map uv).toArray) t (0, 0))) n t l := by rw [h]; exact Ar.new w t l
set_option maxRecDepth 100000 in
set_option maxHeartbeats 4000000 in
theorem mulw_any (a b : Nat) (w : World) (ha : a < 18446744073709551616) (hb : b < 18446744073709551616) : Calls Tryz.prog 131 #[.int .u64 a, .int .u64 b] w fun e w' => (∃ hi lo : Nat, e = .returned (.tuple #[.int .u64 hi, .int .u64 lo]) ∧ 18446744073709551616 * hi + lo = a * b ∧ hi < 18446744073709551616 ∧ lo < 18446744073709551616) ∧ Below w.heap.size w w' := by
  have hea : bits .and .u64 (a : Int) 4294967295 = (a : Int) % 4294967296 := (and_half a ha).trans (by omega)
  have heb : bits .and .u64 (b : Int) 4294967295 = (b : Int) % 4294967296 := (and_half b hb).trans (by omega)
  obtain ⟨xs, hxs⟩ : ∃ xs, xs = [a % 4294967296, a / 4294967296] := ⟨_, rfl⟩
  obtain ⟨ys, hys⟩ : ∃ ys, ys = [b % 4294967296, b / 4294967296] := ⟨_, rfl⟩
  have hxl : xs.length = 2 := by rw [hxs]; rfl
  have hyl : ys.length = 2 := by rw [hys]; rfl
  have hxv : v32 xs = a := by rw [hxs]; simp only [v32]; omega
  have hyv : v32 ys = b := by rw [hys]; simp only [v32]; omega
  have hxw : W32 xs := by rw [hxs]; intro y hy; simp at hy; omega
  have hyw : W32 ys := by rw [hys]; intro y hy; simp at hy; omega
  have hax : (#[Value.int .u64 ((a : Int) % 4294967296), Value.int .u64 ((a : Int) / 4294967296)] : Array Value) = (xs.map uv).toArray := by rw [hxs]; rfl
  have hay : (#[Value.int .u64 ((b : Int) % 4294967296), Value.int .u64 ((b : Int) / 4294967296)] : Array Value) = (ys.map uv).toArray := by rw [hys]; rfl
  have HAX := Lib.hid hax
  have HAY := Lib.hid hay
  clear hxs hys hax hay
  have HX := Lib.hid hxv
  have HY := Lib.hid hyv
  clear hxv hyv
  go_enter Tryz.func131, Tryz.ntmps131
  go_wp2_with fail
  go_loopw [23] (fun i wr => ∃ (n : Nat) (out : List Nat), i = .int .i64 n ∧ n ≤ 2 ∧ out.length = 4 ∧ W32 out ∧ Ar wr w.heap.size 170 xs ∧ Ar wr (w.heap.size + 1) 170 ys ∧
    Ar wr (w.heap.size + 1 + 1) 171 out ∧ Hid (v32 out = v32 (xs.take n) * b) ∧ (∀ j, n + 2 ≤ j → j < 4 → out[j]? = some 0) ∧ Below w.heap.size w wr) (fun i _ => 2 - (intOf i).toNat)
  case atStart =>
    rw [HAX.out, HAY.out]
    refine ⟨0, [0, 0, 0, 0], rfl, by omega, rfl, fun x hx => by simp at hx; omega, ?_, ?_, Ar.new' _ _ [0, 0, 0, 0] (by simp), Lib.hid (by simp [v32]), ?_, ?_⟩
    · refine (Ar.new w _ xs).below (B := w.heap.size + 1) ?_ (Nat.lt_succ_self _)
      exact ((Below.refl _ _).alloc (by simp) _).alloc (by simp) _
    · have := Ar.new (w.alloc (.cells ((xs.map uv).toArray) 170)) 170 ys
      rw [World.size_alloc] at this
      refine this.below (B := w.heap.size + 1 + 1) ?_ (Nat.lt_succ_self _)
      exact (Below.refl _ _).alloc (by simp) _
    · intro j h1 h2
      rcases (by omega : j = 2 ∨ j = 3) with rfl | rfl <;> rfl
    · exact (((Below.refl _ _).alloc (by simp) _).alloc (by simp) _).alloc (by simp; omega) _
  case round =>
    obtain ⟨n, out, rfl, hn, hol, hw, hx, hy, ho, hv, hz, hbel⟩ := hrel
    go_wp2_with fail
    · have hn2 : n < 2 := by omega
      obtain ⟨x, hxn⟩ : ∃ x, xs[n]? = some x := ⟨_, List.getElem?_eq_getElem (by omega)⟩
      have hxx := hxw x (List.mem_of_getElem? hxn)
      have hzn := hz (n + 2) (Nat.le_refl _) (by omega)
      go_loopw [26, 10] (fun i c wr => ∃ (k cc : Nat) (out : List Nat), i = .int .i64 k ∧ c = .int .u64 cc ∧ k ≤ 2 ∧ cc < 4294967296 ∧ out.length = 4 ∧ W32 out ∧ Ar wr w.heap.size 170 xs ∧ Ar wr (w.heap.size + 1) 170 ys ∧
        Ar wr (w.heap.size + 1 + 1) 171 out ∧ Hid (v32 out + 4294967296 ^ (n + k) * cc = v32 (xs.take n) * b + x * 4294967296 ^ n * v32 (ys.take k)) ∧ (∀ j, n + 2 ≤ j → j < 4 → out[j]? = some 0) ∧ Below w.heap.size w wr) (fun i _ _ => 2 - (intOf i).toNat)
      case atStart =>
        exact ⟨0, 0, out, rfl, rfl, by omega, by omega, hol, hw, hx, hy, ho, Lib.hid (by rw [hv.out]; simp [v32]), hz, hbel⟩
      case round =>
        clear hw hol ho hv hz hzn hbel hx hy
        obtain ⟨k, c, out, rfl, rfl, hk, hc, hol, hw, hx, hy, ho, hv, hz, hbel⟩ := hrel
        by_cases hk2 : k < 2
        · obtain ⟨y, hyk⟩ : ∃ y, ys[k]? = some y := ⟨_, List.getElem?_eq_getElem (by omega)⟩
          have hyy := hyw y (List.mem_of_getElem? hyk)
          obtain ⟨o, hok⟩ : ∃ o, out[n + k]? = some o := ⟨_, List.getElem?_eq_getElem (by omega)⟩
          have hoo := hw o (List.mem_of_getElem? hok)
          have hcx := hx.cell hxn
          have hcy := hy.cell hyk
          have hco := ho.cell hok
          have hfo := ho.free (n + k)
          go_wp2_with fail
          go_quiet (fail)
          go_wp2_with fail
          have hb3 := half_prod hxx hyy hoo hc
          have HS := prod_step hok hv.out (y := y)
          have HT := v32_take_succ hyk
          have e1 := wrap3 x y o c hb3
          rw [e1, and_half _ hb3]
          generalize x * y + o + c = t at *
          have e2 : (t : Int) / 4294967296 = ((t / 4294967296 : Nat) : Int) := by omega
          rw [e2]
          clear e1 e2
          go_roundw
          case rel =>
            refine ⟨k + 1, t / 4294967296, out.set (n + k) (t % 4294967296), by go_num, rfl, by omega, by omega, by simpa using hol, hw.set _ (by omega), ?_, ?_, ?_, Lib.hid (by rw [HT]; exact HS), ?_, ?_⟩
            · exact Ar.other (w := wr.drewN nq) hx _ (by simp; omega)
            · exact Ar.other (w := wr.drewN nq) hy _ (by simp)
            · exact Ar.set (w := wr.drewN nq) ho _ _
            · intro j h1 h2
              rw [List.getElem?_set_ne (by omega)]; exact hz j h1 h2
            · exact (hbel.trans (drewN_below _ _ |>.mono hbel.size)).setCell (by show w.heap.size ≤ w.heap.size + 1 + 1; omega) _
          case measure => simp [intOf]; omega
        · have hk3 : k = 2 := by omega
          subst hk3
          have hzn := hz (n + 2) (Nat.le_refl _) (by omega)
          have hco := ho.cell hzn
          have hfo := ho.free (n + 2)
          go_wp2_with fail
          have HT := v32_take_succ hxn
          have HS := v32_set c hzn
          have HV := hv.out
          rw [← hyl, List.take_length, HY.out, hyl] at HV
          go_roundw
          case rel =>
            refine ⟨n + 1, out.set (n + 2) c, by go_num, by omega, by simpa using hol, hw.set _ hc, ?_, ?_, ?_, Lib.hid ?_, ?_, ?_⟩
            · exact Ar.other hx _ (by simp; omega)
            · exact Ar.other hy _ (by simp)
            · exact Ar.set ho _ _
            · rw [HT, Nat.add_mul]
              have : x * 4294967296 ^ n * b = 4294967296 ^ n * x * b := by rw [Nat.mul_comm x]
              omega
            · intro j h1 h2
              rw [List.getElem?_set_ne (by omega)]; exact hz j (by omega) h2
            · exact hbel.setCell (by show w.heap.size ≤ w.heap.size + 1 + 1; omega) _
          case measure => simp [intOf]; omega
    · have hn3 : n = 2 := by omega
      subst hn3
      obtain ⟨o0, h0⟩ : ∃ x, out[0]? = some x := ⟨_, List.getElem?_eq_getElem (by omega)⟩
      obtain ⟨o1, h1⟩ : ∃ x, out[1]? = some x := ⟨_, List.getElem?_eq_getElem (by omega)⟩
      obtain ⟨o2, h2⟩ : ∃ x, out[2]? = some x := ⟨_, List.getElem?_eq_getElem (by omega)⟩
      obtain ⟨o3, h3⟩ : ∃ x, out[3]? = some x := ⟨_, List.getElem?_eq_getElem (by omega)⟩
      have c0 := ho.cell h0
      have c1 := ho.cell h1
      have c2 := ho.cell h2
      have c3 := ho.cell h3
      go_quiet (fail)
      go_wp2_with fail
      have b0 := hw o0 (List.mem_of_getElem? h0)
      have b1 := hw o1 (List.mem_of_getElem? h1)
      have b2 := hw o2 (List.mem_of_getElem? h2)
      have b3 := hw o3 (List.mem_of_getElem? h3)
      have e1 := or_halves o1 o0 b1 b0
      have e3 := or_halves o3 o2 b3 b2
      go_ret2
      rw [e1, e3]
      refine ⟨⟨o3 * 4294967296 + o2, o1 * 4294967296 + o0, rfl, ?_, by omega, by omega⟩, hbel.trans (drewN_below _ _ |>.mono hbel.size)⟩
      have HV := hv.out
      rw [← hxl, List.take_length, HX.out, list4 hol h0 h1 h2 h3] at HV
      simp only [v32] at HV
      omega
end Go.Proofs.YtjdelpelnjhidaaGreatDoor.Pl
