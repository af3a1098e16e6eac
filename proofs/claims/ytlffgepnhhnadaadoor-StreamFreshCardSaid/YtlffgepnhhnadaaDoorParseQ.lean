/- wkb.parsed and wkb.Parse, walked. -/
import Derived.Test.YtlffgepnhhnadaaDoorParseG
import Derived.Tactics
import Derived.Tactics2
import Derived.Defers
import Derived.Recover
import Derived.Laws.Pointers
import Derived.Deep.CutRange
namespace Go.Proofs.YtlffgepnhhnadaaDoor.Pl
open Go.RowKit

theorem assert_early (a b : Int) (w : World) : (Instr.typeAssert (.iface 199 (.agg #[.int .i64 a, .int .i64 b])) 20 199 true).run Tryd.prog w = .ok (.tuple #[.agg #[.int .i64 a, .int .i64 b], .bool true]) w := by kernel_rfl

/-- the named results behind the parser's giving up -/
def Gone (B gb ob eb : Nat) (er : PErr) (w w' : World) : Prop :=
  Below B w w' ∧ w'.heap[gb]? = some (.cells #[.int .i64 0, .slice none 0 0, .slice none 0 0, .slice none 0 0] 51 (0, 0)) ∧ w'.heap[ob]? = some (.cells #[.slice none 0 0] 96 (0, 0)) ∧
    ∃ v, w'.heap[eb]? = some (.cells #[v] 45 (0, 0)) ∧ IsErr (fun b => w.heap.size ≤ b) w' v (some er)

theorem gone_end {B gb ob eb x : Nat} {er : PErr} {w w2 : World} {z0 z1 z2 z3 zo ze : Value} (hgb : B ≤ gb) (hob : B ≤ ob) (heb : B ≤ eb) (hgo : gb ≠ ob) (hge : gb ≠ eb) (hoe : ob ≠ eb) (hb2 : Below w.heap.size w w2) (hB : B ≤ w.heap.size)
    (hg : w2.heap[gb]? = some (.cells #[z0, z1, z2, z3] 51 (0, 0))) (ho : w2.heap[ob]? = some (.cells #[zo] 96 (0, 0))) (he : w2.heap[eb]? = some (.cells #[ze] 45 (0, 0)))
    (hgl : gb < w.heap.size) (hol : ob < w.heap.size) (hel : eb < w.heap.size) (hx : w2.heap[x]? = some (.cells #[.int .i64 er.1, .iface 22 (.int .i64 er.2)] 102 (0, 0))) (hxl : w.heap.size ≤ x) (W : World)
    (hW : W = (((((w2.setCell ⟨gb, 0, none⟩ (.int .i64 0)).setCell ⟨gb, 1, none⟩ (.slice none 0 0)).setCell ⟨gb, 2, none⟩ (.slice none 0 0)).setCell ⟨gb, 3, none⟩ (.slice none 0 0)).setCell ⟨ob, 0, none⟩ (.slice none 0 0)).setCell ⟨eb, 0, none⟩ (.iface 87 (.pointer (some ⟨x, 0, none⟩)))) : Gone B gb ob eb er w W := by
  have hset : ∀ b, b ≠ gb → b ≠ ob → b ≠ eb → W.heap[b]? = w2.heap[b]? := fun b h1 h2 h3 => by
    rw [hW, Below.heap_setCell _ _ _ b h3, Below.heap_setCell _ _ _ b h2, Below.heap_setCell _ _ _ b h1, Below.heap_setCell _ _ _ b h1, Below.heap_setCell _ _ _ b h1, Below.heap_setCell _ _ _ b h1]
  have s0 := heap_store (cs := [z0, z1, z2, z3]) hg (j := 0) (.int .i64 0)
  have s1 := heap_store (cs := [.int .i64 0, z1, z2, z3]) (by simpa using s0) (j := 1) (.slice none 0 0)
  have s2 := heap_store (cs := [.int .i64 0, .slice none 0 0, z2, z3]) (by simpa using s1) (j := 2) (.slice none 0 0)
  have s3 := heap_store (cs := [.int .i64 0, .slice none 0 0, .slice none 0 0, z3]) (by simpa using s2) (j := 3) (.slice none 0 0)
  generalize hV : (((w2.setCell ⟨gb, 0, none⟩ (.int .i64 0)).setCell ⟨gb, 1, none⟩ (.slice none 0 0)).setCell ⟨gb, 2, none⟩ (.slice none 0 0)).setCell ⟨gb, 3, none⟩ (.slice none 0 0) = V at s3 hW
  have hVs : ∀ b, b ≠ gb → V.heap[b]? = w2.heap[b]? := fun b h1 => by
    rw [← hV, Below.heap_setCell _ _ _ b h1, Below.heap_setCell _ _ _ b h1, Below.heap_setCell _ _ _ b h1, Below.heap_setCell _ _ _ b h1]
  have hVb : Below B w V := by rw [← hV]; exact (((((hb2.mono hB).setCell hgb _).setCell hgb _).setCell hgb _).setCell hgb _)
  have t0 := heap_store (cs := [zo]) ((hVs ob hgo.symm).trans ho) (j := 0) (.slice none 0 0)
  have u0 := heap_store (cs := [ze]) ((Below.heap_setCell V ⟨ob, 0, none⟩ (.slice none 0 0) eb hoe.symm).trans ((hVs eb hge.symm).trans he)) (j := 0) (.iface 87 (.pointer (some ⟨x, 0, none⟩)))
  refine ⟨by rw [hW]; exact (hVb.setCell hob _).setCell heb _, ?_, ?_, _, by rw [hW]; simpa using u0, x, rfl, hxl, ?_, ?_⟩
  · rw [hW, Below.heap_setCell _ _ _ gb hge, Below.heap_setCell _ _ _ gb hgo]; simpa using s3
  · rw [hW, Below.heap_setCell _ _ _ ob hoe]; simpa using t0
  · have h := (hset x (by omega) (by omega) (by omega)).trans hx
    simp [World.cell?, h]
  · have h := (hset x (by omega) (by omega) (by omega)).trans hx
    simp [World.cell?, h]
set_option maxRecDepth 100000 in
theorem gone_panicking {B : Nat} (gb ob eb : Nat) (er : PErr) (older : List PanicEntry) (w : World) {z0 z1 z2 z3 zo ze : Value} (hB : B ≤ w.heap.size) (hgb : B ≤ gb) (hob : B ≤ ob) (heb : B ≤ eb) (hgo : gb ≠ ob) (hge : gb ≠ eb) (hoe : ob ≠ eb)
    (hg : w.heap[gb]? = some (.cells #[z0, z1, z2, z3] 51 (0, 0))) (ho : w.heap[ob]? = some (.cells #[zo] 96 (0, 0))) (he : w.heap[eb]? = some (.cells #[ze] 45 (0, 0))) :
    CallsD Tryd.prog 108 #[.pointer (some ⟨gb, 0, none⟩), .pointer (some ⟨ob, 0, none⟩), .pointer (some ⟨eb, 0, none⟩)]
      (.panicking ({ v := .iface 199 (.agg #[.int .i64 er.1, .int .i64 er.2]), recovered := false } :: older)) w fun e u' w' =>
      e = .returned (.tuple #[]) ∧ u' = .panicking ({ v := .iface 199 (.agg #[.int .i64 er.1, .int .i64 er.2]), recovered := true } :: older) ∧ Gone B gb ob eb er w w' := by
  refine callsD_of_wpS Tryd.func108 rfl fun c₀ cs hu => ?_
  simp only [Tryd.ntmps108, List.size_toArray, List.length_cons, List.length_nil, Nat.reduceAdd, Nat.reduceSub, Array.replicate_succ, Array.replicate_zero, List.push_toArray, List.append_toArray, List.nil_append, List.cons_append]
  apply wpS_seq
  apply wpS_region
  simp [wpOpsS, go_sem, recoverD, hu, Exit.thenS]
  refine wpS_of_wp ?_
  have ha := assert_early er.1 er.2
  obtain ⟨w1, hw1⟩ : ∃ w1, w1 = w.alloc (.cells #[.int .i64 er.1, .int .i64 er.2] 199) := ⟨_, rfl⟩
  have hb1 : Below w.heap.size w w1 := by subst hw1; exact (Below.refl _ w).alloc (Nat.le_refl _) _
  have hgl := lt_of_heap hg
  have hol := lt_of_heap ho
  have hel := lt_of_heap he
  go_wp2_with fail
  rw [← hw1]
  clear hw1
  refine (wrap_any er.1 er.2 w1).mono ?_
  rintro e w2 ⟨rfl, hw2⟩
  have hb2 : Below w.heap.size w w2 := by rw [hw2]; exact hb1.alloc hb1.size _
  have hx : w2.heap[w1.heap.size]? = some (.cells #[.int .i64 er.1, .iface 22 (.int .i64 er.2)] 102 (0, 0)) := by rw [hw2]; exact World.alloc_heap_new _ _
  clear hw2
  have hg2 := (hb2.block gb hgl).trans hg
  have ho2 := (hb2.block ob hol).trans ho
  have he2 := (hb2.block eb hel).trans he
  have g0 := cell_row (cs := [_, _, _, _]) (j := 0) hg2 rfl
  have g1 := cell_row (cs := [_, _, _, _]) (j := 1) hg2 rfl
  have g2 := cell_row (cs := [_, _, _, _]) (j := 2) hg2 rfl
  have g3 := cell_row (cs := [_, _, _, _]) (j := 3) hg2 rfl
  have f0 := frozen_row (cs := [_, _, _, _]) hg2 0
  have f1 := frozen_row (cs := [_, _, _, _]) hg2 1
  have f2 := frozen_row (cs := [_, _, _, _]) hg2 2
  have f3 := frozen_row (cs := [_, _, _, _]) hg2 3
  have o0 := cell_row (cs := [_]) (j := 0) ho2 rfl
  have e0 := cell_row (cs := [_]) (j := 0) he2 rfl
  have of0 := frozen_row (cs := [_]) ho2 0
  have ef0 := frozen_row (cs := [_]) he2 0
  have HE := Lib.hid (gone_end hgb hob heb hgo hge hoe hb2 hB hg2 ho2 he2 hgl hol hel hx hb1.size)
  clear hg ho he hg2 ho2 he2 hx hb1 hb2
  go_wp2
  exact ⟨rfl, _, rfl, _, results_none rfl _ _ _, rfl, rfl, HE.out _ rfl⟩

theorem gone_idle (gb ob eb : Nat) (w : World) :
    CallsD Tryd.prog 108 #[.pointer (some ⟨gb, 0, none⟩), .pointer (some ⟨ob, 0, none⟩), .pointer (some ⟨eb, 0, none⟩)] .returning w fun e u' w' =>
      e = .returned (.tuple #[]) ∧ u' = .returning ∧ w' = w := by
  refine callsD_of_wpS Tryd.func108 rfl fun c₀ cs hu => ?_
  simp only [Tryd.ntmps108, List.size_toArray, List.length_cons, List.length_nil, Nat.reduceAdd, Nat.reduceSub, Array.replicate_succ, Array.replicate_zero, List.push_toArray, List.append_toArray, List.nil_append, List.cons_append]
  apply wpS_seq
  apply wpS_region
  simp [wpOpsS, go_sem, recoverD, hu, Exit.thenS]
  refine wpS_of_wp ?_
  go_wp2
  exact ⟨rfl, .returning, by cases c₀; simp at hu; subst hu; rfl, _, results_none rfl _ _ _, rfl, rfl, rfl⟩

theorem par_new {B rb : Nat} {w w2 : World} {v : Value} {l : List UInt8} (h : IsRd w2 rb v l 0) (hrb : B ≤ rb) (hb : Below B w w2) (deep : Int) :
    IsPar B (w2.alloc (.cells #[.pointer (some ⟨rb, 0, none⟩), .int .i64 deep, .slice none 0 0] 205)) w2.heap.size rb v l 0 deep [] ∧ Below B w (w2.alloc (.cells #[.pointer (some ⟨rb, 0, none⟩), .int .i64 deep, .slice none 0 0] 205)) := by
  obtain ⟨W, hW⟩ : ∃ W, W = w2.alloc (.cells #[.pointer (some ⟨rb, 0, none⟩), .int .i64 deep, .slice none 0 0] 205) := ⟨_, rfl⟩
  have hbW : Below w2.heap.size w2 W := by rw [hW]; exact (Below.refl _ w2).alloc (Nat.le_refl _) _
  have hblk : W.heap[w2.heap.size]? = some (.cells #[.pointer (some ⟨rb, 0, none⟩), .int .i64 deep, .slice none 0 0] 205 (0, 0)) := by rw [hW]; exact World.alloc_heap_new _ _
  rw [← hW]
  have hrl := lt_of_heap h.blk
  have hsz := hbW.size
  refine ⟨⟨Nat.le_trans hrb (Nat.le_of_lt hrl), hrb, by omega, ⟨(hbW.block _ hrl).trans h.blk, ?_, h.le⟩, ?_, _, hblk, ⟨rfl, .inl ⟨rfl, rfl⟩⟩, by simp [Value.ownBlock], by simp [Value.ownBlock]⟩, hb.trans (hbW.mono (Nat.le_trans hrb (Nat.le_of_lt hrl)))⟩
  · exact (h.bytes.keeps (below_keeps hbW _)).mono fun b _ hb => ⟨hb.1, by have := hb.2; omega⟩
  · refine (h.bytes.keeps (below_keeps hbW _)).mono fun b _ hb => ⟨by have := hb.2; omega, hb.1, by have := hb.2; omega, fun u hu => ?_⟩
    simp [World.cell?, hblk] at hu
    subst hu
    simp [Value.ownBlock]
theorem vars_set {gb ob eb : Nat} {V W : World} {z0 z1 z2 z3 zo ze : Value} {t1 t2 t3 : TypeId} (hgo : gb ≠ ob) (hge : gb ≠ eb) (hoe : ob ≠ eb) (hg : V.heap[gb]? = some (.cells #[z0, z1, z2, z3] t1 (0, 0))) (ho : V.heap[ob]? = some (.cells #[zo] t2 (0, 0))) (he : V.heap[eb]? = some (.cells #[ze] t3 (0, 0))) (x0 x1 x2 x3 xo xe : Value)
    (hW : W = (((((V.setCell ⟨gb, 0, none⟩ x0).setCell ⟨gb, 1, none⟩ x1).setCell ⟨gb, 2, none⟩ x2).setCell ⟨gb, 3, none⟩ x3).setCell ⟨ob, 0, none⟩ xo).setCell ⟨eb, 0, none⟩ xe) :
    W.heap[gb]? = some (.cells #[x0, x1, x2, x3] t1 (0, 0)) ∧ W.heap[ob]? = some (.cells #[xo] t2 (0, 0)) ∧ W.heap[eb]? = some (.cells #[xe] t3 (0, 0)) ∧ (∀ b, b ≠ gb → b ≠ ob → b ≠ eb → W.heap[b]? = V.heap[b]?) ∧ W.heap.size = V.heap.size ∧
    ∀ (B : Nat) (w : World), B ≤ gb → B ≤ ob → B ≤ eb → Below B w V → Below B w W := by
  have s0 := heap_store (cs := [z0, z1, z2, z3]) hg (j := 0) x0
  have s1 := heap_store (cs := [x0, z1, z2, z3]) (by simpa using s0) (j := 1) x1
  have s2 := heap_store (cs := [x0, x1, z2, z3]) (by simpa using s1) (j := 2) x2
  have s3 := heap_store (cs := [x0, x1, x2, z3]) (by simpa using s2) (j := 3) x3
  generalize hV : (((V.setCell ⟨gb, 0, none⟩ x0).setCell ⟨gb, 1, none⟩ x1).setCell ⟨gb, 2, none⟩ x2).setCell ⟨gb, 3, none⟩ x3 = U at s3 hW
  have hVs : ∀ b, b ≠ gb → U.heap[b]? = V.heap[b]? := fun b h1 => by
    rw [← hV, Below.heap_setCell _ _ _ b h1, Below.heap_setCell _ _ _ b h1, Below.heap_setCell _ _ _ b h1, Below.heap_setCell _ _ _ b h1]
  have t0 := heap_store (cs := [zo]) ((hVs ob hgo.symm).trans ho) (j := 0) xo
  have u0 := heap_store (cs := [ze]) ((Below.heap_setCell U ⟨ob, 0, none⟩ xo eb hoe.symm).trans ((hVs eb hge.symm).trans he)) (j := 0) xe
  refine ⟨?_, ?_, by rw [hW]; simpa using u0, fun b h1 h2 h3 => ?_, by rw [hW, ← hV]; simp [World.setCell], fun B w h1 h2 h3 hb => ?_⟩
  · rw [hW, Below.heap_setCell _ _ _ gb hge, Below.heap_setCell _ _ _ gb hgo]; simpa using s3
  · rw [hW, Below.heap_setCell _ _ _ ob hoe]; simpa using t0
  · rw [hW, Below.heap_setCell _ _ _ b h3, Below.heap_setCell _ _ _ b h2, hVs b h1]
  · rw [hW, ← hV]; exact (((((hb.setCell h1 _).setCell h1 _).setCell h1 _).setCell h1 _).setCell h2 _).setCell h3 _
theorem four_set {gb : Nat} {V W : World} {z0 z1 z2 z3 : Value} {t1 : TypeId} (hg : V.heap[gb]? = some (.cells #[z0, z1, z2, z3] t1 (0, 0))) (x0 x1 x2 x3 : Value)
    (hW : W = (((V.setCell ⟨gb, 0, none⟩ x0).setCell ⟨gb, 1, none⟩ x1).setCell ⟨gb, 2, none⟩ x2).setCell ⟨gb, 3, none⟩ x3) :
    W.heap[gb]? = some (.cells #[x0, x1, x2, x3] t1 (0, 0)) ∧ (∀ b, b ≠ gb → W.heap[b]? = V.heap[b]?) ∧ W.heap.size = V.heap.size ∧ ∀ (B : Nat) (w : World), B ≤ gb → Below B w V → Below B w W := by
  have s0 := heap_store (cs := [z0, z1, z2, z3]) hg (j := 0) x0
  have s1 := heap_store (cs := [x0, z1, z2, z3]) (by simpa using s0) (j := 1) x1
  have s2 := heap_store (cs := [x0, x1, z2, z3]) (by simpa using s1) (j := 2) x2
  have s3 := heap_store (cs := [x0, x1, x2, z3]) (by simpa using s2) (j := 3) x3
  refine ⟨by rw [hW]; simpa using s3, fun b h1 => ?_, by rw [hW]; simp [World.setCell], fun B w h1 hb => ?_⟩
  · rw [hW, Below.heap_setCell _ _ _ b h1, Below.heap_setCell _ _ _ b h1, Below.heap_setCell _ _ _ b h1, Below.heap_setCell _ _ _ b h1]
  · rw [hW]; exact (((hb.setCell h1 _).setCell h1 _).setCell h1 _).setCell h1 _
theorem At_blk {rb at_ : Nat} {v : Value} (w : World) (hblk : w.heap[rb]? = some (.cells #[v, .int .i64 at_, .bool false] 221 (0, 0))) :
    Calls Tryd.prog 112 #[.pointer (some ⟨rb, 0, none⟩)] w fun e w' => e = .returned (.int .i64 at_) ∧ w = w' := by
  have hp1 : w.cell? ⟨rb, 1, none⟩ = some (.int .i64 at_) := by simp [World.cell?, hblk]
  clear hblk
  go_enter Tryd.func112, Tryd.ntmps112
  go_wp2
  go_ret
  exact ⟨rfl, rfl⟩
theorem Left_blk {rb at_ n c : Nat} {A : Option Addr} (w : World) (hblk : w.heap[rb]? = some (.cells #[.slice A n c, .int .i64 at_, .bool false] 221 (0, 0))) (hle : at_ ≤ n) (hl2 : n ≤ 140737488355328) :
    Calls Tryd.prog 111 #[.pointer (some ⟨rb, 0, none⟩)] w fun e w' => e = .returned (.int .i64 ((n - at_ : Nat))) ∧ ∃ k, w' = w.drewN k := by
  have hp0 : w.cell? ⟨rb, 0, none⟩ = some (.slice A n c) := by simp [World.cell?, hblk]
  have hp1 : w.cell? ⟨rb, 1, none⟩ = some (.int .i64 at_) := by simp [World.cell?, hblk]
  have hwr : IntKind.i64.wrap ((n : Int) - at_) = ((n - at_ : Nat) : Int) := by rw [IntKind.wrap_i64]; omega
  generalize n - at_ = d at hwr ⊢
  clear hblk
  go_enter Tryd.func111, Tryd.ntmps111
  go_wp2
  go_quiet (fail)
  go_wp2
  go_ret
  exact ⟨rfl, _, rfl⟩
set_option maxRecDepth 10000 in
theorem results_three {fn : Func} (h : fn.results = #[.cell 6 51, .cell 7 96, .cell 8 45]) (tmps : Array Value) (w : World) {g o e : Nat} {cs : Array Value} {vo ve : Value} {t t2 t3 : TypeId} (hcs : cs.size = 4)
    (h6 : tmps.getD 6 undef = .pointer (some ⟨g, 0, none⟩)) (h7 : tmps.getD 7 undef = .pointer (some ⟨o, 0, none⟩)) (h8 : tmps.getD 8 undef = .pointer (some ⟨e, 0, none⟩))
    (hg : w.heap[g]? = some (.cells cs t (0, 0))) (ho : w.heap[o]? = some (.cells #[vo] t2 (0, 0))) (he : w.heap[e]? = some (.cells #[ve] t3 (0, 0))) :
    (results fn tmps).run Tryd.prog w = .ok (.tuple #[.agg cs, vo, ve]) w := by
  have h6' : tmps[6]?.getD undef = .pointer (some ⟨g, 0, none⟩) := by simpa using h6
  have h7' : tmps[7]?.getD undef = .pointer (some ⟨o, 0, none⟩) := by simpa using h7
  have h8' : tmps[8]?.getD undef = .pointer (some ⟨e, 0, none⟩) := by simpa using h8
  have r1 := run_loadVar_row (P := Tryd.prog) w g t 51 cs (0, 0) _ hg Tryd.underlying51 rfl (by rw [Tryd.infoG4, hcs])
  have o0 : w.cell? ⟨o, 0, none⟩ = some vo := cell_row (cs := [_]) (j := 0) ho rfl
  have e0 : w.cell? ⟨e, 0, none⟩ = some ve := cell_row (cs := [_]) (j := 0) he rfl
  have r2 : (loadVar 96 ⟨o, 0, none⟩).run Tryd.prog w = .ok vo w := by simp [loadVar, isAgg, underlying, Tryd.underlying96, Result.andThen, o0]
  have r3 : (loadVar 45 ⟨e, 0, none⟩).run Tryd.prog w = .ok ve w := by simp [loadVar, isAgg, underlying, Tryd.underlying45, Result.andThen, e0]
  have a1 : (asAddr (.pointer (some ⟨g, 0, none⟩))).run Tryd.prog w = .ok ⟨g, 0, none⟩ w := rfl
  have a2 : (asAddr (.pointer (some ⟨o, 0, none⟩))).run Tryd.prog w = .ok ⟨o, 0, none⟩ w := rfl
  have a3 : (asAddr (.pointer (some ⟨e, 0, none⟩))).run Tryd.prog w = .ok ⟨e, 0, none⟩ w := rfl
  simp only [results, h]
  simp [h6', h7', h8', a1, a2, a3, r1, r2, r3, Sem.run_bind, Result.andThen]

/-- what parsed gives -/
def ParsedPost (w : World) (r : Except PErr (G × List Bool)) (e : Ending) (w' : World) : Prop := ∃ gv ov ev, e = .returned (.tuple #[gv, ov, ev]) ∧ Below w.heap.size w w' ∧
  match r with
  | .ok x => (∃ cs, gv = .agg cs.toArray ∧ IsN (fun b => w.heap.size ≤ b) w' x.1 cs) ∧ OwnO w.heap.size w' ov x.2 ∧ ev = .nilIface
  | .error er => gv = .agg #[.int .i64 0, .slice none 0 0, .slice none 0 0, .slice none 0 0] ∧ ov = .slice none 0 0 ∧ IsErr (fun b => w.heap.size ≤ b) w' ev (some er)
theorem three_vars (w : World) (a b c : Obj) : Below w.heap.size w (((w.alloc a).alloc b).alloc c) ∧ (((w.alloc a).alloc b).alloc c).heap[w.heap.size]? = some a ∧ (((w.alloc a).alloc b).alloc c).heap[w.heap.size + 1]? = some b ∧ (((w.alloc a).alloc b).alloc c).heap[w.heap.size + 1 + 1]? = some c ∧ (((w.alloc a).alloc b).alloc c).heap.size = w.heap.size + 3 := by
  have h1 : (w.alloc a).heap.size = w.heap.size + 1 := Array.size_push _
  have h2 : ((w.alloc a).alloc b).heap.size = w.heap.size + 2 := (Array.size_push _).trans (by rw [h1])
  have h3 : (((w.alloc a).alloc b).alloc c).heap.size = w.heap.size + 3 := (Array.size_push _).trans (by rw [h2])
  have b1 : Below w.heap.size w (w.alloc a) := (Below.refl _ w).alloc (Nat.le_refl _) _
  have b2 : Below (w.heap.size + 1) (w.alloc a) ((w.alloc a).alloc b) := (Below.refl _ _).alloc (by omega) _
  have b3 : Below (w.heap.size + 2) ((w.alloc a).alloc b) (((w.alloc a).alloc b).alloc c) := (Below.refl _ _).alloc (by omega) _
  refine ⟨b1.trans ((b2.mono (by omega)).trans (b3.mono (by omega))), ?_, ?_, ?_, h3⟩
  · exact (b3.block _ (by omega)).trans ((b2.block _ (by omega)).trans (World.alloc_heap_new _ _))
  · exact (b3.block _ (by omega)).trans (by rw [← h1]; exact World.alloc_heap_new _ _)
  · rw [show w.heap.size + 1 + 1 = ((w.alloc a).alloc b).heap.size from h2.symm]; exact World.alloc_heap_new _ _

set_option maxRecDepth 100000 in
set_option maxHeartbeats 1000000 in
theorem parsed_any {ok : Nat → Prop} {v : Value} {l : List UInt8} (md mb : Int) (w : World) (hv : Bytes ok w v l) :
    Calls Tryd.prog 90 #[v, .int .i64 md, .int .i64 mb] w (ParsedPost w (parseR l md mb)) := by
  obtain ⟨w1, hw1⟩ : ∃ w1, w1 = ((w.alloc (.cells #[.int .i64 0, .slice none 0 0, .slice none 0 0, .slice none 0 0] 51)).alloc (.cells #[.slice none 0 0] 96)).alloc (.cells #[.nilIface] 45) := ⟨_, rfl⟩
  obtain ⟨hb1, hg1, ho1, he1, hs1⟩ := three_vars w (.cells #[.int .i64 0, .slice none 0 0, .slice none 0 0, .slice none 0 0] 51) (.cells #[.slice none 0 0] 96) (.cells #[.nilIface] 45)
  rw [← hw1] at hb1 hg1 ho1 he1 hs1
  have hsl : w.heap.size + 3 ≤ w1.heap.size := by omega
  clear hs1
  have hv1 : Bytes ok w1 v l := hv.keeps (below_keeps hb1 ok)
  have HV := Lib.hid hv1
  obtain ⟨A, c, rfl, hc, hl2, hrow⟩ := hv
  have HG := Lib.hid (And.intro hg1 (And.intro ho1 (And.intro he1 hb1)))
  have hmf : ∀ (fn : Fn) (first cap : Array Value) (w : World), (Instr.makeFunc fn first cap).run Tryd.prog w = .ok (.func fn first cap) w := fun _ _ _ _ => rfl
  clear hrow hg1 ho1 he1 hb1 hv1
  obtain ⟨most, hmost⟩ : ∃ most, min (max mb 0) 65536 = most := ⟨_, rfl⟩
  obtain ⟨res, hres⟩ : ∃ res, parseR l md mb = res := ⟨_, rfl⟩
  rw [hres]
  unfold parseR at hres
  rw [hmost] at hres
  have HR := Lib.hid hres
  clear hres
  go_enter_defers Tryd.func90, Tryd.ntmps90
  go_upto_region 1 with (fail)
  rw [← hw1]
  clear hw1
  go_cut [9] from 11 to 13 (fun x W => x = .int .i64 most ∧ W = w1)
  case first =>
    go_wp2
    all_goals
      go_meet
      case rel => exact ⟨by congr 1; omega, rfl⟩
  case rest =>
    obtain ⟨rfl, rfl⟩ := hcut
    obtain ⟨wv, hwv⟩ : ∃ wv, wv = wc := ⟨_, rfl⟩
    subst hwv
    clear hmost
    by_cases hbig : most < l.length
    · have HR1 : Hid (res = .error (most, 192)) := Lib.hid (by rw [← HR.out, if_pos hbig])
      go_wp2_with fail
      refine (wrap_any most 192 wv).mono ?_
      rintro e w2 ⟨rfl, hw2⟩
      have hb2 : Below wv.heap.size wv w2 := by rw [hw2]; exact (Below.refl _ wv).alloc (Nat.le_refl _) _
      have hx : w2.heap[wv.heap.size]? = some (.cells #[.int .i64 most, .iface 22 (.int .i64 192)] 102 (0, 0)) := by rw [hw2]; exact World.alloc_heap_new _ _
      clear hw2
      have hg2 := (hb2.block _ (by omega)).trans HG.out.1
      have ho2 := (hb2.block _ (by omega)).trans HG.out.2.1
      have he2 := (hb2.block _ (by omega)).trans HG.out.2.2.1
      have g0 := cell_row (cs := [_, _, _, _]) (j := 0) hg2 rfl
      have g1 := cell_row (cs := [_, _, _, _]) (j := 1) hg2 rfl
      have g2 := cell_row (cs := [_, _, _, _]) (j := 2) hg2 rfl
      have g3 := cell_row (cs := [_, _, _, _]) (j := 3) hg2 rfl
      have f0 := frozen_row (cs := [_, _, _, _]) hg2 0
      have f1 := frozen_row (cs := [_, _, _, _]) hg2 1
      have f2 := frozen_row (cs := [_, _, _, _]) hg2 2
      have f3 := frozen_row (cs := [_, _, _, _]) hg2 3
      have o0 := cell_row (cs := [_]) (j := 0) ho2 rfl
      have e0 := cell_row (cs := [_]) (j := 0) he2 rfl
      have of0 := frozen_row (cs := [_]) ho2 0
      have ef0 := frozen_row (cs := [_]) he2 0
      have HE := Lib.hid (gone_end (B := w.heap.size) (er := (most, 192)) (Nat.le_refl _) (Nat.le_add_right _ 1) (show w.heap.size ≤ w.heap.size + 1 + 1 by omega) (by omega) (by omega) (by omega) hb2 (by omega) hg2 ho2 he2 (by omega) (by omega) (by omega) hx (Nat.le_refl _))
      clear hg2 ho2 he2 hx hb2
      go_wp2
      obtain ⟨hgo1, hgo2, hgo3, ve, hgo4, hgo5⟩ := HE.out _ rfl
      refine ⟨.tuple #[.agg #[.int .i64 0, .slice none 0 0, .slice none 0 0, .slice none 0 0], .slice none 0 0, ve], results_three (g := w.heap.size) (o := w.heap.size + 1) (e := w.heap.size + 1 + 1) (cs := #[.int .i64 0, .slice none 0 0, .slice none 0 0, .slice none 0 0]) Tryd.results90 _ _ rfl rfl rfl rfl hgo2 hgo3 hgo4, _, _, _, rfl, HG.out.2.2.2.trans hgo1, ?_⟩
      rw [HR1.out]
      exact ⟨rfl, rfl, IsErr.mono (e := some (most, 192)) hgo5 fun b _ hb => by omega⟩
    · have HR2 : Hid (∀ er, geomR l (min md 256) 257 1 0 0 = .error er → res = .error er) := Lib.hid fun er h => by rw [← HR.out, if_neg hbig, h]
      have HR3 : Hid (∀ x a, geomR l (min md 256) 257 1 0 0 = .ok (x, a) → a < l.length → res = .error (a, 174)) := Lib.hid fun x a h h2 => by rw [← HR.out, if_neg hbig, h]; simp only []; rw [if_pos h2]
      have HR4 : Hid (∀ x a, geomR l (min md 256) 257 1 0 0 = .ok (x, a) → ¬ a < l.length → res = .ok x) := Lib.hid fun x a h h2 => by rw [← HR.out, if_neg hbig, h]; simp only []; rw [if_neg h2]
      have HN := Lib.hid (NewReader_any wv HV.out)
      go_upto_region 5 with (fail)
      go_cut [10] from 22 to 27 (fun x W => ∃ pb rb v', x = .pointer (some ⟨pb, 0, none⟩) ∧ IsPar wv.heap.size W pb rb v' l 0 (min md 256) [] ∧ Below wv.heap.size wv W)
      case first =>
        go_wp2_with fail
        refine HN.out.mono ?_
        rintro e w2 ⟨rb, v', rfl, hrd, hrb, hb2⟩
        have HX := Lib.hid (And.intro hrd (And.intro hrb hb2))
        clear hrd hrb hb2
        go_wp2
        all_goals
          go_meet
          case rel =>
            first
              | (rw [show min md 256 = md by omega]; exact ⟨_, rb, v', rfl, par_new HX.out.1 HX.out.2.1 HX.out.2.2 _⟩)
              | (rw [show min md 256 = 256 by omega]; exact ⟨_, rb, v', rfl, par_new HX.out.1 HX.out.2.1 HX.out.2.2 _⟩)
      case rest =>
        obtain ⟨pb, rb, v', rfl, hp, hbl⟩ := hcut
        have HGEO := Lib.hid (geom_rd 257 wv.heap.size pb rb 0 v' l (min md 256) 1 0 [] _ hp (Nat.zero_le _) hbl.size (by omega) (by omega) (by omega) (by omega) (by omega))
        have HBL := Lib.hid hbl
        clear hp hbl
        cases hq : geomR l (min md 256) 257 1 0 0 with
        | error er =>
          rw [hq] at HGEO
          have HRS := Lib.hid (HR2.out _ hq)
          clear hq
          go_wp2_with fail
          refine HGEO.out.mono ?_
          rintro e w3 ⟨hb3, he⟩
          cases he
          have hb4 := HBL.out.trans hb3
          have HQ := Lib.hid (gone_panicking (B := w.heap.size) w.heap.size (w.heap.size + 1) (w.heap.size + 1 + 1) er [] w3 (Nat.le_trans (by omega) hb4.size) (Nat.le_refl _) (by omega) (by omega) (by omega) (by omega) (by omega) ((hb4.block _ (by omega)).trans HG.out.1) ((hb4.block _ (by omega)).trans HG.out.2.1) ((hb4.block _ (by omega)).trans HG.out.2.2.1))
          have HB4 := Lib.hid hb4
          clear hb3 hb4
          go_wp2
          refine leaves_cons (f := 108) (args := #[.pointer (some ⟨w.heap.size, 0, none⟩), .pointer (some ⟨w.heap.size + 1, 0, none⟩), .pointer (some ⟨w.heap.size + 1 + 1, 0, none⟩)]) (by simp) (by simp [go_sem]) ?_
          refine HQ.out.mono ?_
          rintro e u' w'' ⟨rfl, rfl, hgo1, hgo2, hgo3, ve, hgo4, hgo5⟩
          refine ⟨.tuple #[.agg #[.int .i64 0, .slice none 0 0, .slice none 0 0, .slice none 0 0], .slice none 0 0, ve], results_three (g := w.heap.size) (o := w.heap.size + 1) (e := w.heap.size + 1 + 1) (cs := #[.int .i64 0, .slice none 0 0, .slice none 0 0, .slice none 0 0]) Tryd.results90 _ _ rfl rfl rfl rfl hgo2 hgo3 hgo4, _, _, _, rfl, HG.out.2.2.2.trans ((HB4.out.mono (by omega)).trans hgo1), ?_⟩
          rw [HRS.out]
          exact ⟨rfl, rfl, IsErr.mono (e := some er) hgo5 fun b _ hb => Nat.le_trans (Nat.le_trans (by omega) HB4.out.size) hb⟩
        | ok r =>
          obtain ⟨⟨x, os⟩, a⟩ := r
          rw [hq] at HGEO
          have HRS3 := Lib.hid (HR3.out _ _ hq)
          have HRS4 := Lib.hid (HR4.out _ _ hq)
          clear hq
          go_wp2_with fail
          refine HGEO.out.mono ?_
          rintro e w3 ⟨hb3, u, rfl, ⟨cs, rfl, hv⟩, hp3, hk3⟩
          have hb4 := HBL.out.trans hb3
          obtain ⟨kx, lx, rx, px⟩ := x
          have hv2 := hv.1
          simp only [IsG] at hv2
          obtain ⟨x1, x2, x3, rfl, ⟨_, D1, m1, rfl, _⟩, ⟨_, ⟨D2, m2, rfl, _⟩, _⟩, _, ⟨D3, m3, rfl, _⟩, _⟩ := hv2
          obtain ⟨ov, hpb, how, hon1, hon2⟩ := hp3.mem
          obtain ⟨oa, on, oc, hov⟩ : ∃ oa on oc, ov = .slice oa on oc := by rcases how.2 with ⟨h, _⟩ | ⟨g, cap, cur, h, _⟩ <;> exact ⟨_, _, _, h⟩
          subst hov
          have hrb := hp3.rd.blk
          obtain ⟨A', c', hv', _, hl2', _⟩ := hp3.bytes
          have hale : a ≤ l.length := hp3.rd.le
          subst hv'
          have hbp := hp3.basep
          have hbr := hp3.baser
          have hg3 := (hb4.block _ (by omega)).trans HG.out.1
          have ho3 := (hb4.block _ (by omega)).trans HG.out.2.1
          have he3 := (hb4.block _ (by omega)).trans HG.out.2.2.1
          have g0 := cell_row (cs := [_, _, _, _]) (j := 0) hg3 rfl
          have g1 := cell_row (cs := [_, _, _, _]) (j := 1) hg3 rfl
          have g2 := cell_row (cs := [_, _, _, _]) (j := 2) hg3 rfl
          have g3 := cell_row (cs := [_, _, _, _]) (j := 3) hg3 rfl
          have f0 := frozen_row (cs := [_, _, _, _]) hg3 0
          have f1 := frozen_row (cs := [_, _, _, _]) hg3 1
          have f2 := frozen_row (cs := [_, _, _, _]) hg3 2
          have f3 := frozen_row (cs := [_, _, _, _]) hg3 3
          have HF := Lib.hid (fun W x0 x1 x2 x3 hW => four_set (W := W) hg3 x0 x1 x2 x3 hW)
          have HM := Lib.hid (And.intro hpb (And.intro hrb (And.intro ho3 (And.intro he3 (And.intro hv (And.intro how hb4))))))
          clear hpb hrb ho3 he3 hv hb4 hb3 hp3 hk3 hg3 how
          go_upto_region 7 with (fail)
          obtain ⟨w4, hw4⟩ : ∃ w4, w4 = (((w3.setCell ⟨w.heap.size, 0, none⟩ (.int .i64 kx)).setCell ⟨w.heap.size, 1, none⟩ (.slice D1 lx.length m1)).setCell ⟨w.heap.size, 2, none⟩ (.slice D2 rx.length m2)).setCell ⟨w.heap.size, 3, none⟩ (.slice D3 px.length m3) := ⟨_, rfl⟩
          rw [← hw4]
          obtain ⟨q1, q2, q3, q4⟩ := HF.out _ _ _ _ _ hw4
          clear hw4 g0 g1 g2 g3 f0 f1 f2 f3
          have hpb4 := (q2 pb (by omega)).trans HM.out.1
          have hrb4 := (q2 rb (by omega)).trans HM.out.2.1
          have p0 := cell_row (cs := [_, _, _]) (j := 0) hpb4 rfl
          have p2 := cell_row (cs := [_, _, _]) (j := 2) hpb4 rfl
          have HLF := Lib.hid (Left_blk w4 hrb4 hale hl2')
          have HAT := Lib.hid (fun k => At_blk (w4.drewN k) hrb4)
          have ho4 := (q2 (w.heap.size + 1) (by omega)).trans HM.out.2.2.1
          have he4 := (q2 (w.heap.size + 1 + 1) (by omega)).trans HM.out.2.2.2.1
          have hb4 := q4 w.heap.size w (Nat.le_refl _) (HG.out.2.2.2.trans (HM.out.2.2.2.2.2.2.mono (by omega)))
          have HQ4 := Lib.hid (And.intro q1 (And.intro ho4 (And.intro he4 (And.intro q2 (And.intro q3 hb4)))))
          clear q1 ho4 he4 q2 q3 q4 hb4 hpb4 hrb4
          go_wp2_with fail
          refine HLF.out.mono ?_
          rintro e w5 ⟨rfl, k, hw5⟩
          have HAT5 : Hid (Calls Tryd.prog 112 #[.pointer (some ⟨rb, 0, none⟩)] w5 fun e w' => e = .returned (.int .i64 a) ∧ w5 = w') := by rw [hw5]; exact Lib.hid (HAT.out k)
          have hh : w5.heap = w4.heap := by rw [hw5]; rfl
          have q1 := HQ4.out.1
          have ho5 := HQ4.out.2.1
          have he5 := HQ4.out.2.2.1
          have q2 := HQ4.out.2.2.2.1
          have q3 := HQ4.out.2.2.2.2.1
          have q4 : Below w.heap.size w w5 := by rw [hw5]; exact below_drewN HQ4.out.2.2.2.2.2 k
          have p0 := (World.cell?_of_block (w := w4) (w' := w5) (a := ⟨pb, 0, none⟩) (by rw [hh])).trans p0
          have p2 := (World.cell?_of_block (w := w4) (w' := w5) (a := ⟨pb, 2, none⟩) (by rw [hh])).trans p2
          rw [← hh] at q1 ho5 he5 q3
          simp only [← hh] at q2
          clear hh
          clear hw5 HAT HLF HQ4
          have hsl3 := HM.out.2.2.2.2.2.2.size
          by_cases hal : a < l.length
          · obtain ⟨d, hd⟩ : ∃ d, l.length - a = d + 1 := ⟨l.length - a - 1, by omega⟩
            rw [hd]
            have hd0 : (0 : Int) < ((d + 1 : Nat) : Int) := by omega
            have HRS := Lib.hid (HRS3.out hal)
            clear hal hd hale hbig hl2 hl2' hc
            have HV5 := Lib.hid (And.intro q1 (And.intro ho5 (And.intro he5 (And.intro q4 q3))))
            clear q1 ho5 he5 q2 q3 q4
            go_wp2_with fail
            refine HAT5.out.mono ?_
            rintro e w' ⟨rfl, rfl⟩
            go_wp2_with fail
            refine (wrap_any a 174 w5).mono ?_
            rintro e w6 ⟨rfl, hw6⟩
            have hb6 : Below w5.heap.size w5 w6 := by rw [hw6]; exact (Below.refl _ w5).alloc (Nat.le_refl _) _
            have hx : w6.heap[w5.heap.size]? = some (.cells #[.int .i64 a, .iface 22 (.int .i64 174)] 102 (0, 0)) := by rw [hw6]; exact World.alloc_heap_new _ _
            clear hw6
            have hs5 : w5.heap.size = w3.heap.size := HV5.out.2.2.2.2
            have hlt5 : w.heap.size + 3 ≤ w5.heap.size := by omega
            clear hs5
            have hg6 := (hb6.block _ (by omega)).trans HV5.out.1
            have ho6 := (hb6.block _ (by omega)).trans HV5.out.2.1
            have he6 := (hb6.block _ (by omega)).trans HV5.out.2.2.1
            have g0 := cell_row (cs := [_, _, _, _]) (j := 0) hg6 rfl
            have g1 := cell_row (cs := [_, _, _, _]) (j := 1) hg6 rfl
            have g2 := cell_row (cs := [_, _, _, _]) (j := 2) hg6 rfl
            have g3 := cell_row (cs := [_, _, _, _]) (j := 3) hg6 rfl
            have f0 := frozen_row (cs := [_, _, _, _]) hg6 0
            have f1 := frozen_row (cs := [_, _, _, _]) hg6 1
            have f2 := frozen_row (cs := [_, _, _, _]) hg6 2
            have f3 := frozen_row (cs := [_, _, _, _]) hg6 3
            have o0 := cell_row (cs := [_]) (j := 0) ho6 rfl
            have e0 := cell_row (cs := [_]) (j := 0) he6 rfl
            have of0 := frozen_row (cs := [_]) ho6 0
            have ef0 := frozen_row (cs := [_]) he6 0
            have HE := Lib.hid (gone_end (B := w.heap.size) (er := (a, 174)) (Nat.le_refl _) (Nat.le_add_right _ 1) (show w.heap.size ≤ w.heap.size + 1 + 1 by omega) (by omega) (by omega) (by omega) hb6 (by omega) hg6 ho6 he6 (by omega) (by omega) (by omega) hx (Nat.le_refl _))
            clear hg6 ho6 he6 hx hb6
            go_wp2
            obtain ⟨hgo1, hgo2, hgo3, ve, hgo4, hgo5⟩ := HE.out _ rfl
            refine leaves_cons (f := 108) (args := #[.pointer (some ⟨w.heap.size, 0, none⟩), .pointer (some ⟨w.heap.size + 1, 0, none⟩), .pointer (some ⟨w.heap.size + 1 + 1, 0, none⟩)]) (by simp) (by simp [go_sem]) ?_
            refine (gone_idle _ _ _ _).mono ?_
            rintro e u' w'' ⟨rfl, rfl, rfl⟩
            refine ⟨.tuple #[.agg #[.int .i64 0, .slice none 0 0, .slice none 0 0, .slice none 0 0], .slice none 0 0, ve], results_three (g := w.heap.size) (o := w.heap.size + 1) (e := w.heap.size + 1 + 1) (cs := #[.int .i64 0, .slice none 0 0, .slice none 0 0, .slice none 0 0]) Tryd.results90 _ _ rfl rfl rfl rfl hgo2 hgo3 hgo4, _, _, _, rfl, HV5.out.2.2.2.1.trans hgo1, ?_⟩
            rw [HRS.out]
            exact ⟨rfl, rfl, IsErr.mono (e := some (a, 174)) hgo5 fun b _ hb => by omega⟩
          · have hd : l.length - a = 0 := by omega
            rw [hd]
            have HRS := Lib.hid (HRS4.out hal)
            clear hal hd hale hbig hl2 hl2' hc
            have g0 := cell_row (cs := [_, _, _, _]) (j := 0) q1 rfl
            have g1 := cell_row (cs := [_, _, _, _]) (j := 1) q1 rfl
            have g2 := cell_row (cs := [_, _, _, _]) (j := 2) q1 rfl
            have g3 := cell_row (cs := [_, _, _, _]) (j := 3) q1 rfl
            have f0 := frozen_row (cs := [_, _, _, _]) q1 0
            have f1 := frozen_row (cs := [_, _, _, _]) q1 1
            have f2 := frozen_row (cs := [_, _, _, _]) q1 2
            have f3 := frozen_row (cs := [_, _, _, _]) q1 3
            have o0 := cell_row (cs := [_]) (j := 0) ho5 rfl
            have e0 := cell_row (cs := [_]) (j := 0) he5 rfl
            have of0 := frozen_row (cs := [_]) ho5 0
            have ef0 := frozen_row (cs := [_]) he5 0
            have hn1 : ¬ w.heap.size = pb := by omega
            have hn2 : ¬ w.heap.size + 1 = pb := by omega
            have HV5 := Lib.hid (And.intro q1 (And.intro ho5 (And.intro he5 (And.intro q4 q3))))
            have HVS := Lib.hid (fun W hW => vars_set (W := W) (show w.heap.size ≠ w.heap.size + 1 by omega) (show w.heap.size ≠ w.heap.size + 1 + 1 by omega) (show w.heap.size + 1 ≠ w.heap.size + 1 + 1 by omega) q1 ho5 he5 (.int .i64 kx) (.slice D1 lx.length m1) (.slice D2 rx.length m2) (.slice D3 px.length m3) (.slice oa on oc) .nilIface hW)
            have HQ2 := Lib.hid q2
            clear q1 ho5 he5 q2 q3 q4
            go_wp2
            go_region
            obtain ⟨r1, r2, r3, r4, r5, r6⟩ := HVS.out _ rfl
            obtain ⟨W, hW⟩ : ∃ W, W = (((((w5.setCell ⟨w.heap.size, 0, none⟩ (.int .i64 kx)).setCell ⟨w.heap.size, 1, none⟩ (.slice D1 lx.length m1)).setCell ⟨w.heap.size, 2, none⟩ (.slice D2 rx.length m2)).setCell ⟨w.heap.size, 3, none⟩ (.slice D3 px.length m3)).setCell ⟨w.heap.size + 1, 0, none⟩ (.slice oa on oc)).setCell ⟨w.heap.size + 1 + 1, 0, none⟩ .nilIface := ⟨_, rfl⟩
            rw [← hW] at r1 r2 r3 r4 r5 r6 ⊢
            clear hW
            go_wp2
            refine leaves_cons (f := 108) (args := #[.pointer (some ⟨w.heap.size, 0, none⟩), .pointer (some ⟨w.heap.size + 1, 0, none⟩), .pointer (some ⟨w.heap.size + 1 + 1, 0, none⟩)]) (by simp) (by simp [go_sem]) ?_
            refine (gone_idle _ _ _ _).mono ?_
            rintro e u' w'' ⟨rfl, rfl, rfl⟩
            have hbw := r6 w.heap.size w (Nat.le_refl _) (Nat.le_add_right _ 1) (by omega) HV5.out.2.2.2.1
            have hsame : ∀ b, w.heap.size + 3 ≤ b → W.heap[b]? = w3.heap[b]? := fun b hb => (r4 b (by omega) (by omega) (by omega)).trans (HQ2.out b (by omega))
            have hwc := HBL.out.size
            refine ⟨.tuple #[.agg #[.int .i64 kx, .slice D1 lx.length m1, .slice D2 rx.length m2, .slice D3 px.length m3], .slice oa on oc, .nilIface], results_three (g := w.heap.size) (o := w.heap.size + 1) (e := w.heap.size + 1 + 1) (cs := #[.int .i64 kx, .slice D1 lx.length m1, .slice D2 rx.length m2, .slice D3 px.length m3]) Tryd.results90 _ _ rfl rfl rfl rfl r1 r2 r3, _, _, _, rfl, ⟨hbw.os, hbw.tape, hbw.output, hbw.size, hbw.block⟩, ?_⟩
            rw [HRS.out]
            refine ⟨⟨_, rfl, ?_⟩, ?_, rfl⟩
            · have h1 : IsN (NewR wc w3 pb rb) W (G.mk kx lx rx px) [.int .i64 kx, .slice D1 lx.length m1, .slice D2 rx.length m2, .slice D3 px.length m3] := IsN.keeps HM.out.2.2.2.2.1 (fun b o hb ho _ => (hsame b (by have := hb.2; omega)).trans ho)
              have h2 : IsN (fun b => w.heap.size ≤ b) W (G.mk kx lx rx px) [.int .i64 kx, .slice D1 lx.length m1, .slice D2 rx.length m2, .slice D3 px.length m3] := h1.mono fun b _ hb => by have := hb.2; omega
              exact IsN.keeps (w := W) (w' := W.drew) h2 (fun b o _ ho _ => ho)
            · have how := HM.out.2.2.2.2.2.1
              obtain ⟨h0, h1⟩ := how
              refine ⟨by simp, h1.imp (fun h => ⟨h.1, h.2⟩) ?_⟩
              rintro ⟨g, cap, cur, hv, hb, hg, rest⟩
              exact ⟨g, cap, cur, hv, by omega, (hsame g (by omega)).trans hg, rest⟩

/-- what Parse gives -/
def ParsePost (w : World) (r : Except PErr (G × List Bool)) (e : Ending) (w' : World) : Prop := ∃ gv ev, e = .returned (.tuple #[gv, ev]) ∧ Below w.heap.size w w' ∧
  match r with
  | .ok x => (∃ cs, gv = .agg cs.toArray ∧ IsN (fun b => w.heap.size ≤ b) w' x.1 cs) ∧ ev = .nilIface
  | .error er => gv = .agg #[.int .i64 0, .slice none 0 0, .slice none 0 0, .slice none 0 0] ∧ IsErr (fun b => w.heap.size ≤ b) w' ev (some er)
theorem results_geom_tmp {fn : Func} (h : fn.results = #[.cell 6 51, .tmp 7]) (tmps : Array Value) (w : World) {g : Nat} {cs : Array Value} {t : TypeId} (hcs : cs.size = 4)
    (h6 : tmps.getD 6 undef = .pointer (some ⟨g, 0, none⟩)) (hg : w.heap[g]? = some (.cells cs t (0, 0))) :
    (results fn tmps).run Tryd.prog w = .ok (.tuple #[.agg cs, tmps.getD 7 undef]) w := by
  have r1 := run_loadVar_row (P := Tryd.prog) w g t 51 cs (0, 0) _ hg Tryd.underlying51 rfl (by rw [Tryd.infoG4, hcs])
  have a1 : (asAddr (.pointer (some ⟨g, 0, none⟩))).run Tryd.prog w = .ok ⟨g, 0, none⟩ w := rfl
  rw [results_cell_tmp h, h6, a1]
  simp only [Result.andThen, r1]
theorem geom_shape {ok : Nat → Prop} {w : World} {g : G} {cs : List Value} (h : IsG ok w g cs) : ∃ ki A1 n1 c1 A2 n2 c2 A3 n3 c3, cs = [.int .i64 ki, .slice A1 n1 c1, .slice A2 n2 c2, .slice A3 n3 c3] := by
  obtain ⟨kx, lx, rx, px⟩ := g
  simp only [IsG] at h
  obtain ⟨x1, x2, x3, rfl, ⟨_, D1, m1, rfl, _⟩, ⟨_, ⟨D2, m2, rfl, _⟩, _⟩, _, ⟨D3, m3, rfl, _⟩, _⟩ := h
  exact ⟨_, _, _, _, _, _, _, _, _, _, rfl⟩

/-- wkb.Parse. -/
theorem Parse_any {ok : Nat → Prop} {v : Value} {l : List UInt8} (md mb : Int) (w : World) (hv : Bytes ok w v l) :
    Calls Tryd.prog 66 #[v, .int .i64 md, .int .i64 mb] w (ParsePost w (parseR l md mb)) := by
  obtain ⟨w1, hw1⟩ : ∃ w1, w1 = w.alloc (.cells #[.int .i64 0, .slice none 0 0, .slice none 0 0, .slice none 0 0] 51) := ⟨_, rfl⟩
  have hb1 : Below w.heap.size w w1 := by subst hw1; exact (Below.refl _ w).alloc (Nat.le_refl _) _
  have hg1 : w1.heap[w.heap.size]? = some (.cells #[.int .i64 0, .slice none 0 0, .slice none 0 0, .slice none 0 0] 51 (0, 0)) := by subst hw1; exact World.alloc_heap_new _ _
  have hlt := lt_of_heap hg1
  have HP := Lib.hid (parsed_any md mb w1 (hv.keeps (below_keeps hb1 ok) : Bytes ok w1 v l))
  have HX := Lib.hid (And.intro hb1 hg1)
  clear hv hb1 hg1
  generalize parseR l md mb = res at HP ⊢
  go_enter Tryd.func66, Tryd.ntmps66
  go_wp2_with fail
  rw [← hw1]
  clear hw1
  refine HP.out.mono ?_
  rintro e w2 ⟨gv, ov, ev, rfl, hb2, hr⟩
  obtain ⟨ki, A1, n1, c1, A2, n2, c2, A3, n3, c3, hgv⟩ : ∃ ki A1 n1 c1 A2 n2 c2 A3 n3 c3, gv = .agg #[.int .i64 ki, .slice A1 n1 c1, .slice A2 n2 c2, .slice A3 n3 c3] := by
    cases res with
    | error er => exact ⟨_, _, _, _, _, _, _, _, _, _, hr.1⟩
    | ok x =>
      obtain ⟨⟨cs, rfl, hg⟩, _⟩ := hr
      obtain ⟨_, _, _, _, _, _, _, _, _, _, rfl⟩ := geom_shape hg.1
      exact ⟨_, _, _, _, _, _, _, _, _, _, rfl⟩
  subst hgv
  obtain ⟨w3, hw3⟩ : ∃ w3, w3 = w2.alloc (.cells #[.int .i64 ki, .slice A1 n1 c1, .slice A2 n2 c2, .slice A3 n3 c3] 51) := ⟨_, rfl⟩
  have hb3 : Below w2.heap.size w2 w3 := by subst hw3; exact (Below.refl _ w2).alloc (Nat.le_refl _) _
  have hb23 : Below w1.heap.size w1 w3 := hb2.trans (hb3.mono hb2.size)
  have hg3 := (hb23.block _ hlt).trans HX.out.2
  have hn3 : w3.heap[w2.heap.size]? = some (.cells #[.int .i64 ki, .slice A1 n1 c1, .slice A2 n2 c2, .slice A3 n3 c3] 51 (0, 0)) := by subst hw3; exact World.alloc_heap_new _ _
  have g0 := cell_row (cs := [_, _, _, _]) (j := 0) hg3 rfl
  have g1 := cell_row (cs := [_, _, _, _]) (j := 1) hg3 rfl
  have g2 := cell_row (cs := [_, _, _, _]) (j := 2) hg3 rfl
  have g3 := cell_row (cs := [_, _, _, _]) (j := 3) hg3 rfl
  have f0 := frozen_row (cs := [_, _, _, _]) hg3 0
  have f1 := frozen_row (cs := [_, _, _, _]) hg3 1
  have f2 := frozen_row (cs := [_, _, _, _]) hg3 2
  have f3 := frozen_row (cs := [_, _, _, _]) hg3 3
  have y0 := cell_row (cs := [_, _, _, _]) (j := 0) hn3 rfl
  have y1 := cell_row (cs := [_, _, _, _]) (j := 1) hn3 rfl
  have y2 := cell_row (cs := [_, _, _, _]) (j := 2) hn3 rfl
  have y3 := cell_row (cs := [_, _, _, _]) (j := 3) hn3 rfl
  have HF := Lib.hid (fun W hW => four_set (W := W) hg3 (.int .i64 ki) (.slice A1 n1 c1) (.slice A2 n2 c2) (.slice A3 n3 c3) hW)
  have HR := Lib.hid (And.intro hr (And.intro hb23 hb3))
  clear hr hb23 hb3 hb2 hg3 hn3
  go_upto_region 2 with (fail)
  rw [← hw3]
  clear hw3
  go_wp2
  obtain ⟨q1, q2, q3, q4⟩ := HF.out _ rfl
  refine bodyPost_ret (results_geom_tmp (g := w.heap.size) (cs := #[.int .i64 ki, .slice A1 n1 c1, .slice A2 n2 c2, .slice A3 n3 c3]) Tryd.results66 _ _ rfl rfl q1) rfl ?_
  refine ⟨_, _, rfl, q4 _ _ (Nat.le_refl _) (HX.out.1.trans (HR.out.2.1.mono (Nat.le_of_lt hlt))), ?_⟩
  have hk : Keeps (fun b => w1.heap.size ≤ b) w2 ((((w3.setCell ⟨w.heap.size, 0, none⟩ (.int .i64 ki)).setCell ⟨w.heap.size, 1, none⟩ (.slice A1 n1 c1)).setCell ⟨w.heap.size, 2, none⟩ (.slice A2 n2 c2)).setCell ⟨w.heap.size, 3, none⟩ (.slice A3 n3 c3)) :=
    fun b o hb ho _ => (q2 b (by omega)).trans ((HR.out.2.2.block b (lt_of_heap ho)).trans ho)
  have hr := HR.out.1
  cases res with
  | error er => exact ⟨hr.1, IsErr.mono (e := some er) (hr.2.2.keeps hk) fun b _ hb => by omega⟩
  | ok x =>
    obtain ⟨⟨cs, hc, hg⟩, _, he⟩ := hr
    exact ⟨⟨cs, hc, (hg.keeps hk).mono fun b _ hb => by omega⟩, he⟩
end Go.Proofs.YtlffgepnhhnadaaDoor.Pl
