/- Appends of slices that may be empty; told; what Feed gives, in one form. -/
import Derived.Test.YtlffgepnhhnadaaDoorLawA
namespace Go.Proofs.YtlffgepnhhnadaaDoor.Pl
open Go.RowKit

theorem run_append_zero {P : Program} {w : World} (base : Nat) (t ty e : TypeId) (i : TypeInfo) (size : Nat) (ht : P.underlying t = some (.slice e)) (hi : P.info? e = some i)
    (v : Value) (n : Nat) (xs : List Value) (hown : w.ownsRow base e size v n xs) (A : Option Addr) (c : Nat) :
    (Builtin.append_ #[t, t] ty #[v, .slice A 0 c]).run P w = .ok v w := by
  rcases hown.2 with ⟨rfl, rfl⟩ | ⟨g, cap, cur, rfl, _, _, hnc, _⟩
  · cases A <;> simp [Builtin.append_, run_underlying ht, sizeOf, typeInfo, hi, Builtin.lenOf, Builtin.firstCells, loadCells, loadCellsFrom]
  · cases A <;> simp [Builtin.append_, run_underlying ht, sizeOf, typeInfo, hi, Builtin.lenOf, Builtin.firstCells, hnc, storeCells, loadCells, loadCellsFrom]
theorem wpList_append_zero {P : Program} {w : World} {ops : Array Oper} {rest : List Oper} {o : Oper} {a : Act} {Q : Exit → Act → World → Prop} (hgd : o.guard = none) (s x : Operand) (t : TypeId)
    (ho : o.op = .call { callee := .builtin .append, args := #[s, x], argTypes := #[t, t] })
    (base : Nat) (e : TypeId) (i : TypeInfo) (size : Nat) (ht : P.underlying t = some (.slice e)) (hi : P.info? e = some i)
    (v : Value) (n : Nat) (xs : List Value) (hs : a.eval s = v) (hown : w.ownsRow base e size v n xs) (A : Option Addr) (c : Nat) (hx : a.eval x = .slice A 0 c)
    (h : wpList P ops Q rest (a.put o.dst v) w) : wpList P ops Q (o :: rest) a w := by
  refine wpList_plain hgd fun K hK => ?_
  have hrun := run_append_zero (P := P) (w := w) base t o.type e i size ht hi v n xs hown A c
  unfold Oper.wp
  simp [execOp, ho, resolve, invoke, builtin, hs, hx, hrun, Result.andThen]
  exact hK _ _ h
/-- append of any slice to a row that the call made -/
theorem list_append_sl {w : World} {ops : Array Oper} {rest : List Oper} {o : Oper} {a : Act} {Q : Exit → Act → World → Prop} {t e : TypeId} {z : Value} {size bytes : Nat}
    (hu : Tryd.prog.underlying t = some (.slice e)) (hinfo : (Tryd.prog.info? e).map (fun i => (i.zero, i.size, i.bytes)) = some (some z, size, bytes)) (hzs : z.cells.size = size) (hsz : 0 < size) (hby : bytes ≤ 80) (hgd : o.guard = none) (s x : Operand)
    (ho : o.op = .call { callee := .builtin .append, args := #[s, x], argTypes := #[t, t] }) {B n m : Nat} {ok : Nat → Prop} (v y : Value) {vs news : List Value} (hs : a.eval s = v) (hx : a.eval x = y) (hv : w.ownsRow B e size v n vs) (hy : Sl ok w y m news)
    (hnl : news.length = m * size) (h1 : ∀ u ∈ news, u.oneCell' = true) (hl : n + m ≤ 1099511627776) (hB : B ≤ w.heap.size)
    (h : ∀ r w', w'.ownsRow B e size r (n + m) (vs ++ news) → w.grownBy w' v.ownBlock → (∀ b, r.ownBlock = some b → v.ownBlock = some b ∨ b = w.heap.size) → wpList Tryd.prog ops Q rest (a.put o.dst r) w') :
    wpList Tryd.prog ops Q (o :: rest) a w := by
  obtain ⟨i0, hi, hz0, hz1, hz2⟩ := info_parts hinfo
  obtain ⟨A, c, rfl, hmc, _, hrow⟩ := hy
  by_cases hm : m = 0
  · subst hm
    have hnn : news = [] := List.eq_nil_of_length_eq_zero (by omega)
    subst hnn
    refine wpList_append_zero hgd s x t ho B e i0 size hu hi v n vs hs hv A c hx ?_
    have := h v w (by simpa using hv) ⟨rfl, rfl, rfl, Nat.le_refl _, fun _ _ _ => rfl⟩ (fun b hb => .inl hb)
    exact this
  · have hne : news ≠ [] := by
      intro e2; subst e2
      have : 0 < m * size := Nat.mul_pos (by omega) hsz
      simp only [List.length_nil] at hnl; omega
    obtain ⟨b, off, rfl, _, _, hc⟩ := hrow.at hne
    refine wpList_append_lies w hgd s x t ho B e i0 z size bytes hu hi hz0 hz1 hz2 hzs hsz v n vs hs hv ⟨b, off, none⟩ m c news hx hnl (fun j u hj => by rw [addn]; exact hc j u hj) h1 (by omega) (by unfold maxLen; omega) (Nat.le_trans (Nat.mul_le_mul_left _ hby) (by omega)) hB w.heap.size rfl ?_
    intro g cap w' h2 h3 h4 _
    exact h _ w' h2 h3 (fun b hb => by cases hb; exact h4)
theorem bv_one (l : List UInt8) : ∀ u ∈ l.map bv, u.oneCell' = true := by simp [bv, Value.oneCell']
/-- .. of bytes -/
theorem list_append_bs {w : World} {ops : Array Oper} {rest : List Oper} {o : Oper} {a : Act} {Q : Exit → Act → World → Prop} (hgd : o.guard = none) (s x : Operand)
    (ho : o.op = .call { callee := .builtin .append, args := #[s, x], argTypes := #[35, 35] }) {B : Nat} {ok : Nat → Prop} (v y : Value) {l m : List UInt8} (hs : a.eval s = v) (hx : a.eval x = y) (hv : OwnB B w v l) (hy : Bytes ok w y m) (hl : l.length + m.length ≤ 1099511627776) (hB : B ≤ w.heap.size)
    (h : ∀ r w', OwnB B w' r (l ++ m) → w.grownBy w' v.ownBlock → (∀ b, r.ownBlock = some b → v.ownBlock = some b ∨ b = w.heap.size) → wpList Tryd.prog ops Q rest (a.put o.dst r) w') :
    wpList Tryd.prog ops Q (o :: rest) a w := by
  refine list_append_sl Tryd.underlying35 Tryd.info5x rfl (by decide) (by decide) hgd s x ho v y hs hx hv hy (by simp) (bv_one m) hl hB ?_
  intro r w' h2 h3 h4
  refine h r w' ?_ h3 h4
  unfold OwnB
  rw [List.map_append, List.length_append]; exact h2
/-- .. of trees -/
theorem list_append_gs {w : World} {ops : Array Oper} {rest : List Oper} {o : Oper} {a : Act} {Q : Exit → Act → World → Prop} (hgd : o.guard = none) (s x : Operand)
    (ho : o.op = .call { callee := .builtin .append, args := #[s, x], argTypes := #[40, 40] }) {B n m : Nat} {ok : Nat → Prop} (v y : Value) {vs news : List Value} (hs : a.eval s = v) (hx : a.eval x = y) (hv : w.ownsRow B 51 4 v n vs) (hy : Sl ok w y m news)
    (hnl : news.length = m * 4) (h1 : ∀ u ∈ news, u.oneCell' = true) (hl : n + m ≤ 1099511627776) (hB : B ≤ w.heap.size)
    (h : ∀ r w', w'.ownsRow B 51 4 r (n + m) (vs ++ news) → w.grownBy w' v.ownBlock → (∀ b, r.ownBlock = some b → v.ownBlock = some b ∨ b = w.heap.size) → wpList Tryd.prog ops Q rest (a.put o.dst r) w') :
    wpList Tryd.prog ops Q (o :: rest) a w :=
  list_append_sl Tryd.underGx Tryd.infoGx rfl (by decide) (by decide) hgd s x ho v y hs hx hv hy hnl h1 hl hB h

/-- is an error that one at that place? -/
def toldB (er : Option (Int × Int)) (code at_ : Int) : Bool := if code = 0 then er.isNone else match er with | none => false | some x => decide (x.2 = code) && decide (x.1 = at_)
set_option maxRecDepth 100000 in
theorem told_any {ok : Nat → Prop} (er : Option (Int × Int)) (v : Value) (code at_ : Int) (w : World) (hg : ErrT w) (hv : IsErr ok w v er) :
    Calls Tryd.prog 37 #[v, .int .i64 code, .int .i64 at_] w fun e w' => e = .returned (.bool (toldB er code at_)) ∧ Below w.heap.size w w' := by
  have HC := Lib.hid (code_any er v w hg hv)
  have HP := Lib.hid (fun W (hb : Below w.heap.size w W) => place_of er v W (hg.below hb) (hv.keeps (below_keeps hb ok)))
  clear hg
  cases er with
  | none =>
    obtain rfl : v = .nilIface := hv
    by_cases h0 : code = 0
    · subst h0
      go_enter Tryd.func37, Tryd.ntmps37
      go_wp2_with fail
      go_ret
      exact ⟨rfl, Below.refl _ _⟩
    · have hb : (code == 0) = false := beq_eq_false_iff_ne.2 h0
      go_enter Tryd.func37, Tryd.ntmps37
      go_wp2_with fail
      go_ret
      exact ⟨ret_bool (by simp [toldB, h0]), Below.refl _ _⟩
  | some x =>
    obtain ⟨a, c⟩ := x
    obtain ⟨eb, rfl, _⟩ := hv
    by_cases h0 : code = 0
    · subst h0
      go_enter Tryd.func37, Tryd.ntmps37
      go_wp2_with fail
      go_ret
      exact ⟨rfl, Below.refl _ _⟩
    · have hb : (code == 0) = false := beq_eq_false_iff_ne.2 h0
      simp only [codeOf] at HC
      by_cases hc : c = code
      · subst hc
        have hcc : (c == c) = true := beq_self_eq_true c
        go_enter Tryd.func37, Tryd.ntmps37
        go_wp2_with fail
        refine HC.out.mono ?_
        rintro e w1 ⟨rfl, hb1⟩
        have HB1 := Lib.hid hb1
        clear hb1
        simp only [placeOf] at HP
        go_wp2_with fail
        refine (HP.out w1 HB1.out).mono ?_
        rintro e w2 ⟨rfl, hb2⟩
        have HB2 := Lib.hid (HB1.out.trans (hb2.mono HB1.out.size))
        clear hb2
        go_wp2_with fail
        go_ret
        exact ⟨ret_bool (by simp [toldB, h0]; rfl), HB2.out⟩
      · have hcc : (c == code) = false := beq_eq_false_iff_ne.2 hc
        go_enter Tryd.func37, Tryd.ntmps37
        go_wp2_with fail
        refine HC.out.mono ?_
        rintro e w1 ⟨rfl, hb1⟩
        have HB1 := Lib.hid hb1
        clear hb1
        go_wp2_with fail
        go_ret
        exact ⟨ret_bool (by simp [toldB, h0, hc]), HB1.out⟩

/-- an error's place, told from a stream's beginning -/
def errAt (b : Int) : Option (Int × Int) → Option (Int × Int)
  | none => none
  | some x => some (wrap64 (x.1 + b), x.2)
/-- what a reader holds on to: nothing, or the error that broke it -/
def Broke (w w' : World) (rb : Nat) (b : Int) : Option (Int × Int) → Value → Prop
  | none, bp => bp = .pointer none
  | some x, bp => ∃ fb, bp = .pointer (some ⟨fb, 0, none⟩) ∧ NewS w w' rb fb ∧ w'.cell? ⟨fb, 0, none⟩ = some (.int .i64 (wrap64 (x.1 + b)))
/-- what Feed gives, in one form -/
structure FeedU (B : Nat) (w : World) (rb : Nat) (depth begin_ count : Int) (r : List G × Nat × List UInt8 × Option (Int × Int)) (ov ev bp : Value) (vs : List Value) (w' : World) : Prop where
  below : Below B w w'
  keep : KeepS rb w w'
  sl : Sl (NewS w w' rb) w' ov r.1.length vs
  gs : IsGs (NewS w w' rb) w' r.1 vs
  err : IsErr (NewS w w' rb) w' ev (errAt (begin_ + r.2.1) r.2.2.2)
  st : IsSt B w' rb depth r.2.2.1 (begin_ + r.2.1) (count + r.1.length) bp
  bp : Broke w w' rb (begin_ + r.2.1) r.2.2.2 bp
  na : IsNA (NewS w w' rb) w' r.1 vs
theorem feed_any {B rb : Nat} {ok : Nat → Prop} {pv : Value} {depth begin_ count : Int} {l m : List UInt8} (w : World) (hs : IsSt B w rb depth l begin_ count (.pointer none)) (hm : Bytes ok w pv m) (hl : l.length + m.length ≤ 1073741824) (hbc : 0 ≤ begin_ ∧ begin_ ≤ 1152921504606846976 ∧ 0 ≤ count ∧ count ≤ 1152921504606846976) (hg : ErrT w) (hB : B ≤ w.heap.size) (hB0 : 0 < B) :
    Calls Tryd.prog 32 #[.pointer (some ⟨rb, 0, none⟩), pv] w fun e w' => ∃ ov ev bp vs, e = .returned (.tuple #[ov, ev]) ∧ FeedU B w rb depth begin_ count (feed depth (l ++ m)) ov ev bp vs w' := by
  refine (Feed_any w hs hm hl hbc hg hB hB0).mono ?_
  rintro e w' ⟨ov, ev, vs, rfl, h1, h2, h3, h4, h5⟩
  rw [show feedR depth ((l ++ m).length + 1) (l ++ m) = feed depth (l ++ m) from rfl] at *
  generalize feed depth (l ++ m) = r at *
  obtain ⟨gs, n, rest, er⟩ := r
  cases er with
  | none =>
    obtain ⟨rfl, h6⟩ := h5
    exact ⟨ov, _, _, vs, rfl, h1, h2, h3, h4.1.toGs, rfl, h6, rfl, h4⟩
  | some x =>
    obtain ⟨a, c⟩ := x
    obtain ⟨fb, h6, h7, h8, h9⟩ := h5
    exact ⟨ov, ev, _, vs, rfl, h1, h2, h3, h4.1.toGs, h6, h7, ⟨fb, rfl, h8, h9⟩, h4⟩
theorem IsSt.kept {B rb : Nat} {w w' : World} {depth begin_ count : Int} {l : List UInt8} {bp : Value} (h : IsSt B w rb depth l begin_ count bp) (hs : w.heap.size ≤ w'.heap.size) (h1 : w'.heap[rb]? = w.heap[rb]?) (h2 : ∀ v g, w.cell? ⟨rb, 1, none⟩ = some v → v.ownBlock = some g → w'.heap[g]? = w.heap[g]?) : IsSt B w' rb depth l begin_ count bp := by
  obtain ⟨wv, m1, m2⟩ := h.mem
  exact ⟨h.base, wv, h1.trans m1, m2.keep hs fun g hg => h2 wv g (cell_row (cs := [_, _, _, _, _]) (j := 1) m1 rfl) hg⟩
/-- a reader that has nothing yet -/
def FreshR (w : World) (rb : Nat) (depth : Int) : Prop := w.heap[rb]? = some (.cells #[.int .i64 depth, .slice none 0 0, .int .i64 0, .int .i64 0, .pointer none] 89 (0, 0))
theorem FreshR.st {w : World} {rb B : Nat} {depth : Int} (h : FreshR w rb depth) (hB : B ≤ rb) : IsSt B w rb depth [] 0 0 (.pointer none) := ⟨hB, _, h, .inl ⟨rfl, rfl⟩⟩
theorem FreshR.apt {w : World} {rb b : Nat} {depth : Int} (h : FreshR w rb depth) (hb : b < w.heap.size) (hn : b ≠ rb) : AptS w rb b :=
  ⟨hb, hn, fun v hv => by
    have := cell_row (cs := [_, _, _, _, _]) (j := 1) (show w.heap[rb]? = _ from h) rfl
    rw [this] at hv; cases hv; simp [Value.ownBlock]⟩
theorem new_any (depth : Int) (w : World) : Calls Tryd.prog 14 #[.int .i64 depth] w fun e w' =>
    e = .returned (.pointer (some ⟨w.heap.size, 0, none⟩)) ∧ Below w.heap.size w w' ∧ FreshR w' w.heap.size depth := by
  obtain ⟨w1, hw1⟩ : ∃ w1, w1 = w.alloc (.cells #[.int .i64 depth, .slice none 0 0, .int .i64 0, .int .i64 0, .pointer none] 89) := ⟨_, rfl⟩
  have hb1 : Below w.heap.size w w1 := by rw [hw1]; exact (Below.refl _ w).alloc (Nat.le_refl _) _
  have hx1 : w1.heap[w.heap.size]? = some (.cells #[.int .i64 depth, .slice none 0 0, .int .i64 0, .int .i64 0, .pointer none] 89 (0, 0)) := by rw [hw1]; exact World.alloc_heap_new _ _
  have H := Lib.hid (And.intro hb1 hx1)
  clear hb1 hx1
  go_enter Tryd.func14, Tryd.ntmps14
  go_wp2
  rw [← hw1]
  go_ret
  exact ⟨rfl, H.out.1, H.out.2⟩
theorem wrap_at {a b : Int} (h1 : 0 ≤ a) (h2 : a ≤ 1152921504606846976) (h3 : 0 ≤ b) (h4 : b ≤ 1152921504606846976) : wrap64 (a + b) = a + b := by unfold wrap64; omega
end Go.Proofs.YtlffgepnhhnadaaDoor.Pl
