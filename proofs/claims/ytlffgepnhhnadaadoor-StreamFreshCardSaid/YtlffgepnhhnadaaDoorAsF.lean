/- errors.As, closed facts on the model's entries for it; the lines are turned from the worked example ToyasAs. -/
import Derived.Test.YtlffgepnhhnadaaDoorParseQ
import Derived.LaidEql
import Derived.Stop.Asserts
import Derived.RowKitTokens
namespace Go.Proofs.YtlffgepnhhnadaaDoor.Pl
open Go.RowKit Go.Extern.Stop Go.Stop Go.Extern

/-! ### CLOSED FACTS ON THE MODEL's ENTRIES FOR internal/reflectlite, at this program's types: 25: *p.E · 27: **p.E · 23: error · 45: reflectlite's rtype · 1: how many package-level variables the dump has -/
theorem as_valueOf27 (t : Addr) (w : World) : (ReflectliteValue.unpack (.iface 107 (.pointer (some t)))).run Tryd.prog w
    = .ok (.agg #[.pointer (some ⟨4, 107, none⟩), .pointer (some ⟨w.heap.size, 0, none⟩), .int .u64 150]) (w.alloc (.cells #[.pointer (some t)] 107)) := by kernel_rfl
theorem as_type27 (a : Addr) (w : World) : (ReflectliteValue.methodAny (ReflectliteValue.valueError "reflectlite.Value.Type" 0) (fun t _ _ _ => ReflectliteType.toType t) #[.agg #[.pointer (some ⟨4, 107, none⟩), .pointer (some a), .int .u64 150]]).run Tryd.prog w
    = .ok (.iface 168 (.agg #[.pointer (some ⟨4, 107, none⟩)])) w := by kernel_rfl
theorem as_methodKind (h : Value) (w : World) : (Go.method 360 168 (.agg #[h]) "Kind").run Tryd.prog w = .ok (159, h) w := by kernel_rfl
theorem as_kind27 (w : World) : ((ReflectliteType.abiMethod fun t => (fun a : Nat => Value.int IntKind.u8 (a : Int)) <$> Rtype.kind t) #[.pointer (some ⟨4, 107, none⟩)]).run Tryd.prog w = .ok (.int .u8 22) w := by kernel_rfl
theorem as_kind25 (w : World) : ((ReflectliteType.abiMethod fun t => (fun a : Nat => Value.int IntKind.u8 (a : Int)) <$> Rtype.kind t) #[.pointer (some ⟨4, 87, none⟩)]).run Tryd.prog w = .ok (.int .u8 22) w := by kernel_rfl

/-! ### THE ENTRIES THAT READ OR WRITE MEMORY: laws with a premise on the cell (after Derived/Lib/ReflectliteSlice.lean's manner: each unfolding a lemma of its own, by rfl) -/
theorem rlm (z : Sem Value) (f : TypeId → Addr → Nat → Nat → Sem Value) (v : Value) :
    ReflectliteValue.method z f #[v] = (do match ← ReflectliteValue.parts v with | none => z | some (t, a, fl) => f t a fl (fl % 32)) := rfl
theorem as_parts27 (a : Addr) (w : World) : (ReflectliteValue.parts (.agg #[.pointer (some ⟨4, 107, none⟩), .pointer (some a), .int .u64 150])).run Tryd.prog w = .ok (some (107, a, 150)) w := by kernel_rfl
/-- (Value).IsNil at the Value of a **p.E that is not nil. -/
theorem as_isNil27 (a p : Addr) (W : World) (ha : W.cell? a = some (.pointer (some p))) :
    (ReflectliteValue.method (ReflectliteValue.valueError "reflectlite.Value.IsNil" 0) ReflectliteValue.isNil #[.agg #[.pointer (some ⟨4, 107, none⟩), .pointer (some a), .int .u64 150]]).run Tryd.prog W = .ok (.bool false) W := by
  rw [rlm]
  simp only [Sem.run_bind, as_parts27, Result.andThen]
  simp [ReflectliteValue.isNil, loadVar, isAgg, underlying, Tryd.underlying107, ha, Result.andThen]

theorem as_methodElem (h : Value) (w : World) : (Go.method 360 168 (.agg #[h]) "Elem").run Tryd.prog w = .ok (172, .agg #[h]) w := by kernel_rfl
theorem as_methodImplements (h : Value) (w : World) : (Go.method 360 168 (.agg #[h]) "Implements").run Tryd.prog w = .ok (173, .agg #[h]) w := by kernel_rfl
theorem as_methodAssignableTo (h : Value) (w : World) : (Go.method 360 168 (.agg #[h]) "AssignableTo").run Tryd.prog w = .ok (170, .agg #[h]) w := by kernel_rfl
theorem as_elem27 (w : World) : (ReflectliteType.method ReflectliteType.elem #[.agg #[.pointer (some ⟨4, 107, none⟩)]]).run Tryd.prog w = .ok (.iface 168 (.agg #[.pointer (some ⟨4, 87, none⟩)])) w := by kernel_rfl
theorem as_implements25 (w : World) : (ReflectliteType.relation "Implements" ReflectliteType.implements_ #[.agg #[.pointer (some ⟨4, 87, none⟩)], .iface 168 (.agg #[.pointer (some ⟨4, 45, none⟩)])]).run Tryd.prog w = .ok (.bool true) w := by kernel_rfl
theorem as_typeOf25 (v : Value) (w : World) : (ReflectliteType.typeOf #[.iface 87 v]).run Tryd.prog w = .ok (.iface 168 (.agg #[.pointer (some ⟨4, 87, none⟩)])) w := by kernel_rfl
theorem as_assignable25 (w : World) : (ReflectliteType.relation "AssignableTo" ReflectliteType.assignableTo #[.agg #[.pointer (some ⟨4, 87, none⟩)], .iface 168 (.agg #[.pointer (some ⟨4, 87, none⟩)])]).run Tryd.prog w = .ok (.bool true) w := by kernel_rfl
theorem as_valueOf25 (e : Addr) (w : World) : (ReflectliteValue.unpack (.iface 87 (.pointer (some e)))).run Tryd.prog w
    = .ok (.agg #[.pointer (some ⟨4, 87, none⟩), .pointer (some ⟨w.heap.size, 0, none⟩), .int .u64 150]) (w.alloc (.cells #[.pointer (some e)] 87)) := by kernel_rfl

theorem as_elemOf27 (w : World) : (Rtype.elem? 107).run Tryd.prog w = .ok (some 87) w := by kernel_rfl
theorem as_mk25 (p : Addr) (w : World) : (ReflectliteValue.mk 87 p ReflectliteValue.flagAddr).run Tryd.prog w = .ok (.agg #[.pointer (some ⟨4, 87, none⟩), .pointer (some p), .int .u64 406]) w := by kernel_rfl
/-- (Value).Elem at the Value of a **p.E that is not nil: the Value of the *p.E variable that it points to, addressable. -/
theorem as_elemV27 (a p : Addr) (W : World) (ha : W.cell? a = some (.pointer (some p))) :
    (ReflectliteValue.method (ReflectliteValue.valueError "reflectlite.Value.Elem" 0) ReflectliteValue.elem #[.agg #[.pointer (some ⟨4, 107, none⟩), .pointer (some a), .int .u64 150]]).run Tryd.prog W
      = .ok (.agg #[.pointer (some ⟨4, 87, none⟩), .pointer (some p), .int .u64 406]) W := by
  rw [rlm]
  simp only [Sem.run_bind, as_parts27, Result.andThen]
  simp [ReflectliteValue.elem, loadVar, isAgg, underlying, Tryd.underlying107, ha, Result.andThen, as_elemOf27, as_mk25]
theorem rls (v x : Value) : ReflectliteValue.set #[v, x] = (do
    let (some (dst, a, fl), some (src, b, _)) := (← ReflectliteValue.parts v, ← ReflectliteValue.parts x)
      | unsupported (.noEntry "extern/(internal/reflectlite.Value).Set.zeroValue")
    if fl / ReflectliteValue.flagAddr % 2 == 0 then unsupported (.noEntry "extern/(internal/reflectlite.Value).Set.unaddressable")
    let val ← loadVar src b
    if ← Rtype.directlyAssignable dst src then storeVar dst a val
    else if ← Rtype.implements dst src then
      if (← Rtype.kind src) == 20 then
        match val with
        | .nilIface => unsupported (.noEntry "extern/reflectlite: a nil value of one interface type handed on as a value of another")
        | _ => storeVar dst a val
      else storeVar dst a (.iface src val)
    else panicString ("reflectlite.Set: value of type " ++ (← Rtype.spelt src) ++ " is not assignable to type " ++ (← Rtype.spelt dst))
    pure (.tuple #[])) := rfl
theorem as_parts25a (a : Addr) (w : World) : (ReflectliteValue.parts (.agg #[.pointer (some ⟨4, 87, none⟩), .pointer (some a), .int .u64 406])).run Tryd.prog w = .ok (some (87, a, 406)) w := by kernel_rfl
theorem as_parts25 (a : Addr) (w : World) : (ReflectliteValue.parts (.agg #[.pointer (some ⟨4, 87, none⟩), .pointer (some a), .int .u64 150])).run Tryd.prog w = .ok (some (87, a, 150)) w := by kernel_rfl
theorem as_direct25 (w : World) : (Rtype.directlyAssignable 87 87).run Tryd.prog w = .ok true w := by kernel_rfl
theorem as_size25 (w : World) : (sizeOf 87).run Tryd.prog w = .ok 1 w := by kernel_rfl
/-- (Value).Set: the *p.E variable at 'ta' gets what the Value's own variable 'b' holds. -/
theorem as_set25 (ta b e : Addr) (old : Value) (W : World) (hb : W.cell? b = some (.pointer (some e))) (ht : W.cell? ta = some old) (hf : W.frozen? ta = false) :
    (ReflectliteValue.set #[.agg #[.pointer (some ⟨4, 87, none⟩), .pointer (some ta), .int .u64 406], .agg #[.pointer (some ⟨4, 87, none⟩), .pointer (some b), .int .u64 150]]).run Tryd.prog W
      = .ok (.tuple #[]) (W.setCell ta (.pointer (some e))) := by
  rw [rls]
  simp only [Sem.run_bind, as_parts25a, as_parts25, Result.andThen]
  simp [ReflectliteValue.flagAddr, loadVar, isAgg, underlying, Tryd.underlying87, hb, Result.andThen, as_direct25, storeVar, Value.cells, storeCells, Addr.add]
  rw [run_store Tryd.prog W ta _ _ (by rfl)]
  simp [ht, hf]

/-! ### the same for the number: *Errno -/
theorem ae_valueOfP (t : Addr) (w : World) : (ReflectliteValue.unpack (.iface 106 (.pointer (some t)))).run Tryd.prog w
    = .ok (.agg #[.pointer (some ⟨4, 106, none⟩), .pointer (some ⟨w.heap.size, 0, none⟩), .int .u64 150]) (w.alloc (.cells #[.pointer (some t)] 106)) := by kernel_rfl
theorem ae_typeP (a : Addr) (w : World) : (ReflectliteValue.methodAny (ReflectliteValue.valueError "reflectlite.Value.Type" 0) (fun t _ _ _ => ReflectliteType.toType t) #[.agg #[.pointer (some ⟨4, 106, none⟩), .pointer (some a), .int .u64 150]]).run Tryd.prog w
    = .ok (.iface 168 (.agg #[.pointer (some ⟨4, 106, none⟩)])) w := by kernel_rfl
theorem ae_kindP (w : World) : ((ReflectliteType.abiMethod fun t => (fun a : Nat => Value.int IntKind.u8 (a : Int)) <$> Rtype.kind t) #[.pointer (some ⟨4, 106, none⟩)]).run Tryd.prog w = .ok (.int .u8 22) w := by kernel_rfl
theorem ae_kindE (w : World) : ((ReflectliteType.abiMethod fun t => (fun a : Nat => Value.int IntKind.u8 (a : Int)) <$> Rtype.kind t) #[.pointer (some ⟨4, 22, none⟩)]).run Tryd.prog w = .ok (.int .u8 2) w := by kernel_rfl
theorem ae_partsP (a : Addr) (w : World) : (ReflectliteValue.parts (.agg #[.pointer (some ⟨4, 106, none⟩), .pointer (some a), .int .u64 150])).run Tryd.prog w = .ok (some (106, a, 150)) w := by kernel_rfl
theorem ae_isNilP (a p : Addr) (W : World) (ha : W.cell? a = some (.pointer (some p))) :
    (ReflectliteValue.method (ReflectliteValue.valueError "reflectlite.Value.IsNil" 0) ReflectliteValue.isNil #[.agg #[.pointer (some ⟨4, 106, none⟩), .pointer (some a), .int .u64 150]]).run Tryd.prog W = .ok (.bool false) W := by
  rw [rlm]
  simp only [Sem.run_bind, ae_partsP, Result.andThen]
  simp [ReflectliteValue.isNil, loadVar, isAgg, underlying, Tryd.underlying106, ha, Result.andThen]
theorem ae_elemP (w : World) : (ReflectliteType.method ReflectliteType.elem #[.agg #[.pointer (some ⟨4, 106, none⟩)]]).run Tryd.prog w = .ok (.iface 168 (.agg #[.pointer (some ⟨4, 22, none⟩)])) w := by kernel_rfl
theorem ae_implementsE (w : World) : (ReflectliteType.relation "Implements" ReflectliteType.implements_ #[.agg #[.pointer (some ⟨4, 22, none⟩)], .iface 168 (.agg #[.pointer (some ⟨4, 45, none⟩)])]).run Tryd.prog w = .ok (.bool true) w := by kernel_rfl
theorem ae_typeOfE (v : Value) (w : World) : (ReflectliteType.typeOf #[.iface 22 v]).run Tryd.prog w = .ok (.iface 168 (.agg #[.pointer (some ⟨4, 22, none⟩)])) w := by kernel_rfl
theorem ae_assignableF (w : World) : (ReflectliteType.relation "AssignableTo" ReflectliteType.assignableTo #[.agg #[.pointer (some ⟨4, 87, none⟩)], .iface 168 (.agg #[.pointer (some ⟨4, 22, none⟩)])]).run Tryd.prog w = .ok (.bool false) w := by kernel_rfl
theorem ae_assignableE (w : World) : (ReflectliteType.relation "AssignableTo" ReflectliteType.assignableTo #[.agg #[.pointer (some ⟨4, 22, none⟩)], .iface 168 (.agg #[.pointer (some ⟨4, 22, none⟩)])]).run Tryd.prog w = .ok (.bool true) w := by kernel_rfl
theorem ae_valueOfE (c : Int) (w : World) : (ReflectliteValue.unpack (.iface 22 (.int .i64 c))).run Tryd.prog w
    = .ok (.agg #[.pointer (some ⟨4, 22, none⟩), .pointer (some ⟨w.heap.size, 0, none⟩), .int .u64 130]) (w.alloc (.cells #[.int .i64 c] 22)) := by kernel_rfl
theorem ae_elemOfP (w : World) : (Rtype.elem? 106).run Tryd.prog w = .ok (some 22) w := by kernel_rfl
theorem ae_mkE (p : Addr) (w : World) : (ReflectliteValue.mk 22 p ReflectliteValue.flagAddr).run Tryd.prog w = .ok (.agg #[.pointer (some ⟨4, 22, none⟩), .pointer (some p), .int .u64 386]) w := by kernel_rfl
theorem ae_elemVP (a p : Addr) (W : World) (ha : W.cell? a = some (.pointer (some p))) :
    (ReflectliteValue.method (ReflectliteValue.valueError "reflectlite.Value.Elem" 0) ReflectliteValue.elem #[.agg #[.pointer (some ⟨4, 106, none⟩), .pointer (some a), .int .u64 150]]).run Tryd.prog W
      = .ok (.agg #[.pointer (some ⟨4, 22, none⟩), .pointer (some p), .int .u64 386]) W := by
  rw [rlm]
  simp only [Sem.run_bind, ae_partsP, Result.andThen]
  simp [ReflectliteValue.elem, loadVar, isAgg, underlying, Tryd.underlying106, ha, Result.andThen, ae_elemOfP, ae_mkE]
theorem ae_partsEa (a : Addr) (w : World) : (ReflectliteValue.parts (.agg #[.pointer (some ⟨4, 22, none⟩), .pointer (some a), .int .u64 386])).run Tryd.prog w = .ok (some (22, a, 386)) w := by kernel_rfl
theorem ae_partsE (a : Addr) (w : World) : (ReflectliteValue.parts (.agg #[.pointer (some ⟨4, 22, none⟩), .pointer (some a), .int .u64 130])).run Tryd.prog w = .ok (some (22, a, 130)) w := by kernel_rfl
theorem ae_directE (w : World) : (Rtype.directlyAssignable 22 22).run Tryd.prog w = .ok true w := by kernel_rfl
theorem ae_setE (ta b : Addr) (c : Int) (old : Value) (W : World) (hb : W.cell? b = some (.int .i64 c)) (ht : W.cell? ta = some old) (hf : W.frozen? ta = false) :
    (ReflectliteValue.set #[.agg #[.pointer (some ⟨4, 22, none⟩), .pointer (some ta), .int .u64 386], .agg #[.pointer (some ⟨4, 22, none⟩), .pointer (some b), .int .u64 130]]).run Tryd.prog W
      = .ok (.tuple #[]) (W.setCell ta (.int .i64 c)) := by
  rw [rls]
  simp only [Sem.run_bind, ae_partsEa, ae_partsE, Result.andThen]
  simp [ReflectliteValue.flagAddr, loadVar, isAgg, underlying, Tryd.underlying22, hb, Result.andThen, ae_directE, storeVar, Value.cells, storeCells, Addr.add]
  rw [run_store Tryd.prog W ta _ _ (by rfl)]
  simp [ht, hf]
theorem ae_noAs (e : Addr) (w : World) : (Instr.typeAssert (.iface 87 (.pointer (some e))) 45 173 true).run Tryd.prog w = .ok (.tuple #[.nilIface, .bool false]) w := run_typeAssert_lacksB Tryd.underlying173 (by kernel_rfl) (by kernel_rfl) _ _ w
theorem ae_unwraps (e : Addr) (w : World) : (Instr.typeAssert (.iface 87 (.pointer (some e))) 45 176 true).run Tryd.prog w = .ok (.tuple #[.iface 87 (.pointer (some e)), .bool true]) w := by kernel_rfl
theorem ae_methodUnwrap (e : Addr) (w : World) : (Go.method 360 87 (.pointer (some e)) "Unwrap").run Tryd.prog w = .ok (164, .pointer (some e)) w := by kernel_rfl
end Go.Proofs.YtlffgepnhhnadaaDoor.Pl
