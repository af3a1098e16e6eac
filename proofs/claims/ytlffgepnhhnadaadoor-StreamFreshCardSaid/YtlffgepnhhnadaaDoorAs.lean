/- errors.As, walked: a Fault asked for as a *Fault, or for the number in it. The library's own text; the lines are turned from the worked example ToyasAs. -/
import Derived.Test.YtlffgepnhhnadaaDoorAsF
namespace Go.Proofs.YtlffgepnhhnadaaDoor.Pl
open Go.RowKit Go.Extern.Stop Go.Stop Go.Extern

/-- errors.As(nil, target). -/
theorem as_nil (t : Value) (w : World) :
    Calls Tryd.prog 53 #[.nilIface, t] w fun e w' => e = .returned (.bool false) ∧ w' = w := by
  go_enter Tryd.func53, Tryd.ntmps53
  go_wp2
  go_ret
  exact ⟨rfl, rfl⟩

set_option maxRecDepth 100000 in
set_option maxHeartbeats 4000000 in
theorem as_hit (e t : Addr) (old : Value) (w : World) (hg : w.cell? ⟨0, 0, none⟩ = some (.iface 168 (.agg #[.pointer (some ⟨4, 45, none⟩)]))) (ht0 : w.cell? t = some old) (hf0 : w.frozen? t = false) :
    Calls Tryd.prog 53 #[.iface 87 (.pointer (some e)), .iface 107 (.pointer (some t))] w fun ev w' => ev = .returned (.bool true) ∧ w' = ((((w.alloc (.cells #[.pointer (some t)] 107)).alloc (.cells #[.pointer (some ⟨4, 107, none⟩), .pointer (some ⟨w.heap.size, 0, none⟩), .int .u64 150] 129)).alloc (.cells #[.pointer (some ⟨4, 107, none⟩), .pointer (some ⟨w.heap.size, 0, none⟩), .int .u64 150] 129)).alloc (.cells #[.pointer (some e)] 87)).setCell t (.pointer (some e)) := by
  have h6 := @run_callFunc_extern Tryd.prog 67 _ (fun args => ReflectliteValue.unpack (args.getD 0 (.tuple #[]))) Tryd.func67 (by kernel_rfl) (by kernel_rfl) (by kernel_rfl) (by kernel_rfl)
  have h7 := @run_callFunc_extern Tryd.prog 68 _ (ReflectliteValue.methodAny (ReflectliteValue.valueError "reflectlite.Value.Type" 0) (fun t _ _ _ => ReflectliteType.toType t)) Tryd.func68 (by kernel_rfl) (by kernel_rfl) (by kernel_rfl) (by kernel_rfl)
  have h8 := @run_callFunc_extern Tryd.prog 69 _ (ReflectliteValue.method (ReflectliteValue.valueError "reflectlite.Value.IsNil" 0) ReflectliteValue.isNil) Tryd.func69 (by kernel_rfl) (by kernel_rfl) (by kernel_rfl) (by kernel_rfl)
  have h27 := @run_callFunc_extern Tryd.prog 159 _ (ReflectliteType.abiMethod fun t => do pure (.int .u8 (← Rtype.kind t))) Tryd.func159 (by kernel_rfl) (by kernel_rfl) (by kernel_rfl) (by kernel_rfl)
  have h37 := @run_callFunc_extern Tryd.prog 172 _ (ReflectliteType.method ReflectliteType.elem) Tryd.func172 (by kernel_rfl) (by kernel_rfl) (by kernel_rfl) (by kernel_rfl)
  have h38 := @run_callFunc_extern Tryd.prog 173 _ (ReflectliteType.relation "Implements" ReflectliteType.implements_) Tryd.func173 (by kernel_rfl) (by kernel_rfl) (by kernel_rfl) (by kernel_rfl)
  have h10 := @run_callFunc_extern Tryd.prog 91 _ ReflectliteType.typeOf Tryd.func91 (by kernel_rfl) (by kernel_rfl) (by kernel_rfl) (by kernel_rfl)
  have h35 := @run_callFunc_extern Tryd.prog 170 _ (ReflectliteType.relation "AssignableTo" ReflectliteType.assignableTo) Tryd.func170 (by kernel_rfl) (by kernel_rfl) (by kernel_rfl) (by kernel_rfl)
  have h11 := @run_callFunc_extern Tryd.prog 92 _ (ReflectliteValue.method (ReflectliteValue.valueError "reflectlite.Value.Elem" 0) ReflectliteValue.elem) Tryd.func92 (by kernel_rfl) (by kernel_rfl) (by kernel_rfl) (by kernel_rfl)
  have h12 := @run_callFunc_extern Tryd.prog 93 _ ReflectliteValue.set Tryd.func93 (by kernel_rfl) (by kernel_rfl) (by kernel_rfl) (by kernel_rfl)
  have tO := as_typeOf25
  have mA := as_methodAssignableTo
  have a25 := as_assignable25
  have v25 := as_valueOf25
  have f6 := as_valueOf27
  have f7 := as_type27
  have mK := as_methodKind
  have mE := as_methodElem
  have mI := as_methodImplements
  have k27 := as_kind27
  have k25 := as_kind25
  have e27 := as_elem27
  have i25 := as_implements25
  have n8 := as_isNil27 ⟨w.heap.size, 0, none⟩ t ((w.alloc (.cells #[.pointer (some t)] 107)).alloc (.cells #[.pointer (some ⟨4, 107, none⟩), .pointer (some ⟨w.heap.size, 0, none⟩), .int .u64 150] 129)) (by simp)
  have hlt : 0 < w.heap.size := by
    rcases Nat.eq_zero_or_pos w.heap.size with h0 | h
    · simp [World.cell?, h0] at hg
    · exact h
  have hg2 : ((w.alloc (.cells #[.pointer (some t)] 107)).alloc (.cells #[.pointer (some ⟨4, 107, none⟩), .pointer (some ⟨w.heap.size, 0, none⟩), .int .u64 150] 129)).cell? ⟨0, 0, none⟩ = some (.iface 168 (.agg #[.pointer (some ⟨4, 45, none⟩)])) := by
    rw [World.cell?_alloc_lt _ _ ⟨0, 0, none⟩ (by simp), World.cell?_alloc_lt _ _ ⟨0, 0, none⟩ hlt]; exact hg
  have htl : t.block < w.heap.size := by
    rcases Nat.lt_or_ge t.block w.heap.size with h | h
    · exact h
    · simp [World.cell?, Array.getElem?_eq_none h] at ht0
  have el := as_elemV27 ⟨w.heap.size, 0, none⟩ t (((w.alloc (.cells #[.pointer (some t)] 107)).alloc (.cells #[.pointer (some ⟨4, 107, none⟩), .pointer (some ⟨w.heap.size, 0, none⟩), .int .u64 150] 129)).alloc (.cells #[.pointer (some ⟨4, 107, none⟩), .pointer (some ⟨w.heap.size, 0, none⟩), .int .u64 150] 129)) (by rw [World.cell?_alloc_lt _ _ ⟨w.heap.size, 0, none⟩ (by simp; omega)]; simp)
  have st := as_set25 t ⟨w.heap.size + 1 + 1 + 1, 0, none⟩ e old ((((w.alloc (.cells #[.pointer (some t)] 107)).alloc (.cells #[.pointer (some ⟨4, 107, none⟩), .pointer (some ⟨w.heap.size, 0, none⟩), .int .u64 150] 129)).alloc (.cells #[.pointer (some ⟨4, 107, none⟩), .pointer (some ⟨w.heap.size, 0, none⟩), .int .u64 150] 129)).alloc (.cells #[.pointer (some e)] 87))
    (by rw [World.cell?_alloc_at _ _ _ _ (by simp)]; rfl)
    (by rw [World.cell?_alloc_lt _ _ t (by simp; omega), World.cell?_alloc_lt _ _ t (by simp; omega), World.cell?_alloc_lt _ _ t (by simp; omega), World.cell?_alloc_lt _ _ t htl]; exact ht0)
    (by rw [World.frozen?_alloc_old _ _ t (by simp; omega), World.frozen?_alloc_old _ _ t (by simp; omega), World.frozen?_alloc_old _ _ t (by simp; omega), World.frozen?_alloc_old _ _ t (Nat.ne_of_lt htl)]; exact hf0)
  go_enter Tryd.func53, Tryd.ntmps53
  go_wp2
  refine wp_loop_rounds 1 ?_
  rw [rounds_succ]
  go_wp2
  go_ret
  exact ⟨rfl, rfl⟩

set_option maxRecDepth 100000 in
set_option maxHeartbeats 4000000 in
theorem as_errno (eb : Nat) (c : Int) (t : Addr) (old : Value) (w : World) (hg : w.cell? ⟨0, 0, none⟩ = some (.iface 168 (.agg #[.pointer (some ⟨4, 45, none⟩)]))) (he : w.cell? ⟨eb, 1, none⟩ = some (.iface 22 (.int .i64 c))) (ht0 : w.cell? t = some old) (hf0 : w.frozen? t = false) :
    Calls Tryd.prog 53 #[.iface 87 (.pointer (some ⟨eb, 0, none⟩)), .iface 106 (.pointer (some t))] w fun ev w' => ev = .returned (.bool true) ∧ w' = ((((w.alloc (.cells #[.pointer (some t)] 106)).alloc (.cells #[.pointer (some ⟨4, 106, none⟩), .pointer (some ⟨w.heap.size, 0, none⟩), .int .u64 150] 129)).alloc (.cells #[.pointer (some ⟨4, 106, none⟩), .pointer (some ⟨w.heap.size, 0, none⟩), .int .u64 150] 129)).alloc (.cells #[.int .i64 c] 22)).setCell t (.int .i64 c) := by
  have h6 := @run_callFunc_extern Tryd.prog 67 _ (fun args => ReflectliteValue.unpack (args.getD 0 (.tuple #[]))) Tryd.func67 (by kernel_rfl) (by kernel_rfl) (by kernel_rfl) (by kernel_rfl)
  have h7 := @run_callFunc_extern Tryd.prog 68 _ (ReflectliteValue.methodAny (ReflectliteValue.valueError "reflectlite.Value.Type" 0) (fun t _ _ _ => ReflectliteType.toType t)) Tryd.func68 (by kernel_rfl) (by kernel_rfl) (by kernel_rfl) (by kernel_rfl)
  have h8 := @run_callFunc_extern Tryd.prog 69 _ (ReflectliteValue.method (ReflectliteValue.valueError "reflectlite.Value.IsNil" 0) ReflectliteValue.isNil) Tryd.func69 (by kernel_rfl) (by kernel_rfl) (by kernel_rfl) (by kernel_rfl)
  have h27 := @run_callFunc_extern Tryd.prog 159 _ (ReflectliteType.abiMethod fun t => do pure (.int .u8 (← Rtype.kind t))) Tryd.func159 (by kernel_rfl) (by kernel_rfl) (by kernel_rfl) (by kernel_rfl)
  have h37 := @run_callFunc_extern Tryd.prog 172 _ (ReflectliteType.method ReflectliteType.elem) Tryd.func172 (by kernel_rfl) (by kernel_rfl) (by kernel_rfl) (by kernel_rfl)
  have h38 := @run_callFunc_extern Tryd.prog 173 _ (ReflectliteType.relation "Implements" ReflectliteType.implements_) Tryd.func173 (by kernel_rfl) (by kernel_rfl) (by kernel_rfl) (by kernel_rfl)
  have h10 := @run_callFunc_extern Tryd.prog 91 _ ReflectliteType.typeOf Tryd.func91 (by kernel_rfl) (by kernel_rfl) (by kernel_rfl) (by kernel_rfl)
  have h35 := @run_callFunc_extern Tryd.prog 170 _ (ReflectliteType.relation "AssignableTo" ReflectliteType.assignableTo) Tryd.func170 (by kernel_rfl) (by kernel_rfl) (by kernel_rfl) (by kernel_rfl)
  have h11 := @run_callFunc_extern Tryd.prog 92 _ (ReflectliteValue.method (ReflectliteValue.valueError "reflectlite.Value.Elem" 0) ReflectliteValue.elem) Tryd.func92 (by kernel_rfl) (by kernel_rfl) (by kernel_rfl) (by kernel_rfl)
  have h12 := @run_callFunc_extern Tryd.prog 93 _ ReflectliteValue.set Tryd.func93 (by kernel_rfl) (by kernel_rfl) (by kernel_rfl) (by kernel_rfl)
  have tO := ae_typeOfE
  have mA := as_methodAssignableTo
  have a25 := ae_assignableE
  have v25 := ae_valueOfE
  have f6 := ae_valueOfP
  have f7 := ae_typeP
  have mK := as_methodKind
  have mE := as_methodElem
  have mI := as_methodImplements
  have k27 := ae_kindP
  have k25 := ae_kindE
  have e27 := ae_elemP
  have i25 := ae_implementsE
  have n8 := ae_isNilP ⟨w.heap.size, 0, none⟩ t ((w.alloc (.cells #[.pointer (some t)] 106)).alloc (.cells #[.pointer (some ⟨4, 106, none⟩), .pointer (some ⟨w.heap.size, 0, none⟩), .int .u64 150] 129)) (by simp)
  have hlt : 0 < w.heap.size := by
    rcases Nat.eq_zero_or_pos w.heap.size with h0 | h
    · simp [World.cell?, h0] at hg
    · exact h
  have hg2 : ((w.alloc (.cells #[.pointer (some t)] 106)).alloc (.cells #[.pointer (some ⟨4, 106, none⟩), .pointer (some ⟨w.heap.size, 0, none⟩), .int .u64 150] 129)).cell? ⟨0, 0, none⟩ = some (.iface 168 (.agg #[.pointer (some ⟨4, 45, none⟩)])) := by
    rw [World.cell?_alloc_lt _ _ ⟨0, 0, none⟩ (by simp), World.cell?_alloc_lt _ _ ⟨0, 0, none⟩ hlt]; exact hg
  have htl : t.block < w.heap.size := by
    rcases Nat.lt_or_ge t.block w.heap.size with h | h
    · exact h
    · simp [World.cell?, Array.getElem?_eq_none h] at ht0
  have el := ae_elemVP ⟨w.heap.size, 0, none⟩ t (((w.alloc (.cells #[.pointer (some t)] 106)).alloc (.cells #[.pointer (some ⟨4, 106, none⟩), .pointer (some ⟨w.heap.size, 0, none⟩), .int .u64 150] 129)).alloc (.cells #[.pointer (some ⟨4, 106, none⟩), .pointer (some ⟨w.heap.size, 0, none⟩), .int .u64 150] 129)) (by rw [World.cell?_alloc_lt _ _ ⟨w.heap.size, 0, none⟩ (by simp; omega)]; simp)
  have st := ae_setE t ⟨w.heap.size + 1 + 1 + 1, 0, none⟩ c old ((((w.alloc (.cells #[.pointer (some t)] 106)).alloc (.cells #[.pointer (some ⟨4, 106, none⟩), .pointer (some ⟨w.heap.size, 0, none⟩), .int .u64 150] 129)).alloc (.cells #[.pointer (some ⟨4, 106, none⟩), .pointer (some ⟨w.heap.size, 0, none⟩), .int .u64 150] 129)).alloc (.cells #[.int .i64 c] 22))
    (by rw [World.cell?_alloc_at _ _ _ _ (by simp)]; rfl)
    (by rw [World.cell?_alloc_lt _ _ t (by simp; omega), World.cell?_alloc_lt _ _ t (by simp; omega), World.cell?_alloc_lt _ _ t (by simp; omega), World.cell?_alloc_lt _ _ t htl]; exact ht0)
    (by rw [World.frozen?_alloc_old _ _ t (by simp; omega), World.frozen?_alloc_old _ _ t (by simp; omega), World.frozen?_alloc_old _ _ t (by simp; omega), World.frozen?_alloc_old _ _ t (Nat.ne_of_lt htl)]; exact hf0)
  have tF := as_typeOf25
  have aF := ae_assignableF
  have nA := ae_noAs
  have nU := ae_unwraps
  have mU := ae_methodUnwrap
  have hel : eb < w.heap.size := lt_of_cell he
  have he3 : (((w.alloc (.cells #[.pointer (some t)] 106)).alloc (.cells #[.pointer (some ⟨4, 106, none⟩), .pointer (some ⟨w.heap.size, 0, none⟩), .int .u64 150] 129)).alloc (.cells #[.pointer (some ⟨4, 106, none⟩), .pointer (some ⟨w.heap.size, 0, none⟩), .int .u64 150] 129)).cell? ⟨eb, 1, none⟩ = some (.iface 22 (.int .i64 c)) := by
    rw [World.cell?_alloc_lt _ _ ⟨eb, 1, none⟩ (by simp; omega), World.cell?_alloc_lt _ _ ⟨eb, 1, none⟩ (by simp; omega), World.cell?_alloc_lt _ _ ⟨eb, 1, none⟩ hel]; exact he
  go_enter Tryd.func53, Tryd.ntmps53
  go_wp2
  refine wp_loop_rounds 2 ?_
  rw [rounds_succ]
  go_wp2
  rw [rounds_succ]
  go_wp2
  go_ret
  exact ⟨rfl, rfl⟩

/-- the library's variable that errors.As reads -/
def ErrT (w : World) : Prop := w.cell? ⟨0, 0, none⟩ = some (.iface 168 (.agg #[.pointer (some ⟨4, 45, none⟩)]))
theorem ErrT.below {w w' : World} (h : ErrT w) (hb : Below w.heap.size w w') : ErrT w' := (hb.cell (p := ⟨0, 0, none⟩) (lt_of_cell h)).trans h
theorem as_fault (eb : Nat) (t : Addr) (old : Value) (w : World) (hg : ErrT w) (ht0 : w.cell? t = some old) (hf0 : w.frozen? t = false) :
    Calls Tryd.prog 53 #[.iface 87 (.pointer (some ⟨eb, 0, none⟩)), .iface 107 (.pointer (some t))] w fun ev w' => ev = .returned (.bool true) ∧ ∃ w1, Below w.heap.size w w1 ∧ w' = w1.setCell t (.pointer (some ⟨eb, 0, none⟩)) := by
  refine (as_hit ⟨eb, 0, none⟩ t old w hg ht0 hf0).mono ?_
  rintro e w' ⟨rfl, rfl⟩
  exact ⟨rfl, _, ((((Below.refl _ w).alloc (Nat.le_refl _) _).alloc (by simp) _).alloc (by simp; omega) _).alloc (by simp; omega) _, rfl⟩
theorem as_number (eb : Nat) (c : Int) (t : Addr) (old : Value) (w : World) (hg : ErrT w) (he : w.cell? ⟨eb, 1, none⟩ = some (.iface 22 (.int .i64 c))) (ht0 : w.cell? t = some old) (hf0 : w.frozen? t = false) :
    Calls Tryd.prog 53 #[.iface 87 (.pointer (some ⟨eb, 0, none⟩)), .iface 106 (.pointer (some t))] w fun ev w' => ev = .returned (.bool true) ∧ ∃ w1, Below w.heap.size w w1 ∧ w' = w1.setCell t (.int .i64 c) := by
  refine (as_errno eb c t old w hg he ht0 hf0).mono ?_
  rintro e w' ⟨rfl, rfl⟩
  exact ⟨rfl, _, ((((Below.refl _ w).alloc (Nat.le_refl _) _).alloc (by simp) _).alloc (by simp; omega) _).alloc (by simp; omega) _, rfl⟩
end Go.Proofs.YtlffgepnhhnadaaDoor.Pl
