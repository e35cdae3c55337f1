/- errors.As on the faults of this program, at the target *Fault; after the kit's worked example ToyasAs. errors.Is on the faults of this program; the verifier's Code. pergolaalike.Is: of no error, and of a fault with that op and id. Errors within errors: a Fault of a number, or a Fault of such a Fault; what pergolaalike.Is says of it. -/
import Derived.Test.YthppgchmamonnaaGreatDoorPq03
import Derived.LaidEql
import Derived.RowKitTokens
import Derived.Stop.Asserts
import Derived.WalkKit
namespace Go.Proofs.YthppgchmamonnaaGreatDoor
section
open Go.RowKit Go.Extern.Stop Go.Stop Go.Extern
/-! ### CLOSED FACTS ON THE MODEL's ENTRIES FOR internal/reflectlite -/
theorem as_valueOf27 (t : Addr) (w : World) : (ReflectliteValue.unpack (.iface 83 (.pointer (some t)))).run Tryz.prog w
    = .ok (.agg #[.pointer (some ⟨1, 83, none⟩), .pointer (some ⟨w.heap.size, 0, none⟩), .int .u64 150]) (w.alloc (.cells #[.pointer (some t)] 83)) := by kernel_rfl
theorem as_type27 (a : Addr) (w : World) : (ReflectliteValue.methodAny (ReflectliteValue.valueError "reflectlite.Value.Type" 0) (fun t _ _ _ => ReflectliteType.toType t) #[.agg #[.pointer (some ⟨1, 83, none⟩), .pointer (some a), .int .u64 150]]).run Tryz.prog w
    = .ok (.iface 167 (.agg #[.pointer (some ⟨1, 83, none⟩)])) w := by kernel_rfl
theorem as_methodKind (n : Nat) (h : Value) (w : World) : (Go.method (n + 1) 167 (.agg #[h]) "Kind").run Tryz.prog w = .ok (147, h) w := by kernel_rfl
theorem as_kind27 (w : World) : ((ReflectliteType.abiMethod fun t => (fun a : Nat => Value.int IntKind.u8 (a : Int)) <$> Rtype.kind t) #[.pointer (some ⟨1, 83, none⟩)]).run Tryz.prog w = .ok (.int .u8 22) w := by kernel_rfl
theorem as_kind25 (w : World) : ((ReflectliteType.abiMethod fun t => (fun a : Nat => Value.int IntKind.u8 (a : Int)) <$> Rtype.kind t) #[.pointer (some ⟨1, 81, none⟩)]).run Tryz.prog w = .ok (.int .u8 22) w := by kernel_rfl
/-! ### THE ENTRIES THAT READ OR WRITE MEMORY: laws with a premise on the cell (after Derived/Lib/ReflectliteSlice.lean's manner: each unfolding a lemma of its own, by rfl) -/
theorem rlm (z : Sem Value) (f : TypeId → Addr → Nat → Nat → Sem Value) (v : Value) :
    ReflectliteValue.method z f #[v] = (do match ← ReflectliteValue.parts v with | none => z | some (t, a, fl) => f t a fl (fl % 32)) := rfl
theorem as_parts27 (a : Addr) (w : World) : (ReflectliteValue.parts (.agg #[.pointer (some ⟨1, 83, none⟩), .pointer (some a), .int .u64 150])).run Tryz.prog w = .ok (some (83, a, 150)) w := by kernel_rfl
theorem as_isNil27 (a p : Addr) (W : World) (ha : W.cell? a = some (.pointer (some p))) :
    (ReflectliteValue.method (ReflectliteValue.valueError "reflectlite.Value.IsNil" 0) ReflectliteValue.isNil #[.agg #[.pointer (some ⟨1, 83, none⟩), .pointer (some a), .int .u64 150]]).run Tryz.prog W = .ok (.bool false) W := by
  rw [rlm]
  simp only [Sem.run_bind, as_parts27, Result.andThen]
  simp [ReflectliteValue.isNil, loadVar, isAgg, underlying, Tryz.underlying83, ha, Result.andThen]
theorem as_methodElem (n : Nat) (h : Value) (w : World) : (Go.method (n + 1) 167 (.agg #[h]) "Elem").run Tryz.prog w = .ok (162, .agg #[h]) w := by kernel_rfl
theorem as_methodImplements (n : Nat) (h : Value) (w : World) : (Go.method (n + 1) 167 (.agg #[h]) "Implements").run Tryz.prog w = .ok (163, .agg #[h]) w := by kernel_rfl
theorem as_methodAssignableTo (n : Nat) (h : Value) (w : World) : (Go.method (n + 1) 167 (.agg #[h]) "AssignableTo").run Tryz.prog w = .ok (160, .agg #[h]) w := by kernel_rfl
theorem as_elem27 (w : World) : (ReflectliteType.method ReflectliteType.elem #[.agg #[.pointer (some ⟨1, 83, none⟩)]]).run Tryz.prog w = .ok (.iface 167 (.agg #[.pointer (some ⟨1, 81, none⟩)])) w := by kernel_rfl
theorem as_implements25 (w : World) : (ReflectliteType.relation "Implements" ReflectliteType.implements_ #[.agg #[.pointer (some ⟨1, 81, none⟩)], .iface 167 (.agg #[.pointer (some ⟨1, 25, none⟩)])]).run Tryz.prog w = .ok (.bool true) w := by kernel_rfl
theorem as_typeOf25 (v : Value) (w : World) : (ReflectliteType.typeOf #[.iface 81 v]).run Tryz.prog w = .ok (.iface 167 (.agg #[.pointer (some ⟨1, 81, none⟩)])) w := by kernel_rfl
theorem as_assignable25 (w : World) : (ReflectliteType.relation "AssignableTo" ReflectliteType.assignableTo #[.agg #[.pointer (some ⟨1, 81, none⟩)], .iface 167 (.agg #[.pointer (some ⟨1, 81, none⟩)])]).run Tryz.prog w = .ok (.bool true) w := by kernel_rfl
theorem as_valueOf25 (e : Addr) (w : World) : (ReflectliteValue.unpack (.iface 81 (.pointer (some e)))).run Tryz.prog w
    = .ok (.agg #[.pointer (some ⟨1, 81, none⟩), .pointer (some ⟨w.heap.size, 0, none⟩), .int .u64 150]) (w.alloc (.cells #[.pointer (some e)] 81)) := by kernel_rfl
theorem as_elemOf27 (w : World) : (Rtype.elem? 83).run Tryz.prog w = .ok (some 81) w := by kernel_rfl
theorem as_mk25 (p : Addr) (w : World) : (ReflectliteValue.mk 81 p ReflectliteValue.flagAddr).run Tryz.prog w = .ok (.agg #[.pointer (some ⟨1, 81, none⟩), .pointer (some p), .int .u64 406]) w := by kernel_rfl
theorem as_elemV27 (a p : Addr) (W : World) (ha : W.cell? a = some (.pointer (some p))) :
    (ReflectliteValue.method (ReflectliteValue.valueError "reflectlite.Value.Elem" 0) ReflectliteValue.elem #[.agg #[.pointer (some ⟨1, 83, none⟩), .pointer (some a), .int .u64 150]]).run Tryz.prog W
      = .ok (.agg #[.pointer (some ⟨1, 81, none⟩), .pointer (some p), .int .u64 406]) W := by
  rw [rlm]
  simp only [Sem.run_bind, as_parts27, Result.andThen]
  simp [ReflectliteValue.elem, loadVar, isAgg, underlying, Tryz.underlying83, ha, Result.andThen, as_elemOf27, as_mk25]
theorem rls (v x : Value) : ReflectliteValue.set #[v, x] = (do
    let (some (dst, a, fl), some (src, b, _)) := (← ReflectliteValue.parts v, ← ReflectliteValue.parts x)
      | unsupported (.noEntry "extern/(internal/reflectlite.Value).Set.zeroValue")
    if fl / ReflectliteValue.flagAddr % 2 == 0 then unsupported (.noEntry "extern/(internal/reflectlite.Value).Set.unaddressable")
    let val ← loadVar src b
    if ← Rtype.directlyAssignable dst src then storeVar dst a val
    else if ← Rtype.implements dst src then
      if (← Rtype.kind src) == 20 then
        match val with
        | .nilIface => unsupported (.noEntry "extern/reflectlite: a nil value of one interface type handed on as a value of another")
        | _ => storeVar dst a val
      else storeVar dst a (.iface src val)
    else panicString ("reflectlite.Set: value of type " ++ (← Rtype.spelt src) ++ " is not assignable to type " ++ (← Rtype.spelt dst))
    pure (.tuple #[])) := rfl
theorem as_parts25a (a : Addr) (w : World) : (ReflectliteValue.parts (.agg #[.pointer (some ⟨1, 81, none⟩), .pointer (some a), .int .u64 406])).run Tryz.prog w = .ok (some (81, a, 406)) w := by kernel_rfl
theorem as_parts25 (a : Addr) (w : World) : (ReflectliteValue.parts (.agg #[.pointer (some ⟨1, 81, none⟩), .pointer (some a), .int .u64 150])).run Tryz.prog w = .ok (some (81, a, 150)) w := by kernel_rfl
theorem as_direct25 (w : World) : (Rtype.directlyAssignable 81 81).run Tryz.prog w = .ok true w := by kernel_rfl
theorem as_set25 (ta b e : Addr) (old : Value) (W : World) (hb : W.cell? b = some (.pointer (some e))) (ht : W.cell? ta = some old) (hf : W.frozen? ta = false) :
    (ReflectliteValue.set #[.agg #[.pointer (some ⟨1, 81, none⟩), .pointer (some ta), .int .u64 406], .agg #[.pointer (some ⟨1, 81, none⟩), .pointer (some b), .int .u64 150]]).run Tryz.prog W
      = .ok (.tuple #[]) (W.setCell ta (.pointer (some e))) := by
  rw [rls]
  simp only [Sem.run_bind, as_parts25a, as_parts25, Result.andThen]
  simp [ReflectliteValue.flagAddr, loadVar, isAgg, underlying, Tryz.underlying81, hb, Result.andThen, as_direct25, storeVar, Value.cells, storeCells, Addr.add]
  rw [run_store Tryz.prog W ta _ _ (by rfl)]
  simp [ht, hf]
set_option maxHeartbeats 4000000 in
theorem as_hit (e t : Addr) (old : Value) (w : World) (hg : w.cell? ⟨0, 0, none⟩ = some (.iface 167 (.agg #[.pointer (some ⟨1, 25, none⟩)]))) (ht0 : w.cell? t = some old) (hf0 : w.frozen? t = false) :
    Calls Tryz.prog 37 #[.iface 81 (.pointer (some e)), .iface 83 (.pointer (some t))] w fun ev w' => ev = .returned (.bool true) ∧ w' = ((((w.alloc (.cells #[.pointer (some t)] 83)).alloc (.cells #[.pointer (some ⟨1, 83, none⟩), .pointer (some ⟨w.heap.size, 0, none⟩), .int .u64 150] 131)).alloc (.cells #[.pointer (some ⟨1, 83, none⟩), .pointer (some ⟨w.heap.size, 0, none⟩), .int .u64 150] 131)).alloc (.cells #[.pointer (some e)] 81)).setCell t (.pointer (some e)) := by
  have h6 := @run_callFunc_extern Tryz.prog 69 _ (fun args => ReflectliteValue.unpack (args.getD 0 (.tuple #[]))) Tryz.func69 (by kernel_rfl) (by kernel_rfl) (by kernel_rfl) (by kernel_rfl)
  have h7 := @run_callFunc_extern Tryz.prog 70 _ (ReflectliteValue.methodAny (ReflectliteValue.valueError "reflectlite.Value.Type" 0) (fun t _ _ _ => ReflectliteType.toType t)) Tryz.func70 (by kernel_rfl) (by kernel_rfl) (by kernel_rfl) (by kernel_rfl)
  have h8 := @run_callFunc_extern Tryz.prog 71 _ (ReflectliteValue.method (ReflectliteValue.valueError "reflectlite.Value.IsNil" 0) ReflectliteValue.isNil) Tryz.func71 (by kernel_rfl) (by kernel_rfl) (by kernel_rfl) (by kernel_rfl)
  have h27 := @run_callFunc_extern Tryz.prog 147 _ (ReflectliteType.abiMethod fun t => do pure (.int .u8 (← Rtype.kind t))) Tryz.func147 (by kernel_rfl) (by kernel_rfl) (by kernel_rfl) (by kernel_rfl)
  have h37 := @run_callFunc_extern Tryz.prog 162 _ (ReflectliteType.method ReflectliteType.elem) Tryz.func162 (by kernel_rfl) (by kernel_rfl) (by kernel_rfl) (by kernel_rfl)
  have h38 := @run_callFunc_extern Tryz.prog 163 _ (ReflectliteType.relation "Implements" ReflectliteType.implements_) Tryz.func163 (by kernel_rfl) (by kernel_rfl) (by kernel_rfl) (by kernel_rfl)
  have h10 := @run_callFunc_extern Tryz.prog 76 _ ReflectliteType.typeOf Tryz.func76 (by kernel_rfl) (by kernel_rfl) (by kernel_rfl) (by kernel_rfl)
  have h35 := @run_callFunc_extern Tryz.prog 160 _ (ReflectliteType.relation "AssignableTo" ReflectliteType.assignableTo) Tryz.func160 (by kernel_rfl) (by kernel_rfl) (by kernel_rfl) (by kernel_rfl)
  have h11 := @run_callFunc_extern Tryz.prog 101 _ (ReflectliteValue.method (ReflectliteValue.valueError "reflectlite.Value.Elem" 0) ReflectliteValue.elem) Tryz.func101 (by kernel_rfl) (by kernel_rfl) (by kernel_rfl) (by kernel_rfl)
  have h12 := @run_callFunc_extern Tryz.prog 102 _ ReflectliteValue.set Tryz.func102 (by kernel_rfl) (by kernel_rfl) (by kernel_rfl) (by kernel_rfl)
  have tO := as_typeOf25
  have mA := as_methodAssignableTo
  have a25 := as_assignable25
  have v25 := as_valueOf25
  have f6 := as_valueOf27
  have f7 := as_type27
  have mK := as_methodKind
  have mE := as_methodElem
  have mI := as_methodImplements
  have k27 := as_kind27
  have k25 := as_kind25
  have e27 := as_elem27
  have i25 := as_implements25
  have n8 := as_isNil27 ⟨w.heap.size, 0, none⟩ t ((w.alloc (.cells #[.pointer (some t)] 83)).alloc (.cells #[.pointer (some ⟨1, 83, none⟩), .pointer (some ⟨w.heap.size, 0, none⟩), .int .u64 150] 131)) (by simp)
  have hlt : 0 < w.heap.size := by
    rcases Nat.eq_zero_or_pos w.heap.size with h0 | h
    · simp [World.cell?, h0] at hg
    · exact h
  have hg2 : ((w.alloc (.cells #[.pointer (some t)] 83)).alloc (.cells #[.pointer (some ⟨1, 83, none⟩), .pointer (some ⟨w.heap.size, 0, none⟩), .int .u64 150] 131)).cell? ⟨0, 0, none⟩ = some (.iface 167 (.agg #[.pointer (some ⟨1, 25, none⟩)])) := by
    rw [World.cell?_alloc_lt _ _ ⟨0, 0, none⟩ (by simp), World.cell?_alloc_lt _ _ ⟨0, 0, none⟩ hlt]; exact hg
  have htl : t.block < w.heap.size := by
    rcases Nat.lt_or_ge t.block w.heap.size with h | h
    · exact h
    · simp [World.cell?, Array.getElem?_eq_none h] at ht0
  have el := as_elemV27 ⟨w.heap.size, 0, none⟩ t (((w.alloc (.cells #[.pointer (some t)] 83)).alloc (.cells #[.pointer (some ⟨1, 83, none⟩), .pointer (some ⟨w.heap.size, 0, none⟩), .int .u64 150] 131)).alloc (.cells #[.pointer (some ⟨1, 83, none⟩), .pointer (some ⟨w.heap.size, 0, none⟩), .int .u64 150] 131)) (by rw [World.cell?_alloc_lt _ _ ⟨w.heap.size, 0, none⟩ (by simp; omega)]; simp)
  have st := as_set25 t ⟨w.heap.size + 1 + 1 + 1, 0, none⟩ e old ((((w.alloc (.cells #[.pointer (some t)] 83)).alloc (.cells #[.pointer (some ⟨1, 83, none⟩), .pointer (some ⟨w.heap.size, 0, none⟩), .int .u64 150] 131)).alloc (.cells #[.pointer (some ⟨1, 83, none⟩), .pointer (some ⟨w.heap.size, 0, none⟩), .int .u64 150] 131)).alloc (.cells #[.pointer (some e)] 81))
    (by rw [World.cell?_alloc_at _ _ _ _ (by simp)]; rfl)
    (by rw [World.cell?_alloc_lt _ _ t (by simp; omega), World.cell?_alloc_lt _ _ t (by simp; omega), World.cell?_alloc_lt _ _ t (by simp; omega), World.cell?_alloc_lt _ _ t htl]; exact ht0)
    (by rw [World.frozen?_alloc_old _ _ t (by simp; omega), World.frozen?_alloc_old _ _ t (by simp; omega), World.frozen?_alloc_old _ _ t (by simp; omega), World.frozen?_alloc_old _ _ t (Nat.ne_of_lt htl)]; exact hf0)
  go_enter Tryz.func37, Tryz.ntmps37
  go_wp2
  refine wp_loop_rounds 1 ?_
  rw [rounds_succ]
  go_wp2
  go_ret
  exact ⟨rfl, rfl⟩
end
section
open Go.RowKit Go.Extern.Stop Go.Stop Go.Extern
section
variable {P : Program} (w : World)
theorem run_equalIn_iface_int (d : Nat) {ti tn : TypeId} {ms : Array (String × TypeId)} {i : TypeInfo} {k : IntKind} (a b : Int)
    (hi : P.underlying ti = some (.interface ms)) (hn : P.underlying tn = some (.int k)) (hinfo : P.info? tn = some i) (hcomp : i.comparable = true) :
    (Op.equalIn (d + 2) ti (.iface tn (.int k a)) (.iface tn (.int k b))).run P w = .ok (a == b) w := by
  simp [Op.equalIn, run_underlying hi, run_underlying hn, typeInfo, hinfo, hcomp]
theorem run_eql_iface_int {ti tn : TypeId} {ms : Array (String × TypeId)} {i : TypeInfo} {k : IntKind} (a b : Int)
    (hi : P.underlying ti = some (.interface ms)) (hn : P.underlying tn = some (.int k)) (hinfo : P.info? tn = some i) (hcomp : i.comparable = true) :
    (binOp .eql ti (.iface tn (.int k a)) (.iface tn (.int k b))).run P w = .ok (.bool (a == b)) w := by
  simp only [binOp]
  simp [Op.equal, Op.maxDepth, run_equalIn_iface_int w 9998 a b hi hn hinfo hcomp]
end
/-! what errors.is's assertions find -/
theorem ta_is_errno (v : Value) (w : World) : (Instr.typeAssert (.iface 69 v) 25 182 true).run Tryz.prog w = .ok (.tuple #[.nilIface, .bool false]) w := run_typeAssert_lacksB Tryz.underlying182 (by kernel_rfl) (by kernel_rfl) v _ w
theorem ta_un_errno (v : Value) (w : World) : (Instr.typeAssert (.iface 69 v) 25 174 true).run Tryz.prog w = .ok (.tuple #[.nilIface, .bool false]) w := run_typeAssert_lacksB Tryz.underlying174 (by kernel_rfl) (by kernel_rfl) v _ w
theorem ta_uns_errno (v : Value) (w : World) : (Instr.typeAssert (.iface 69 v) 25 175 true).run Tryz.prog w = .ok (.tuple #[.nilIface, .bool false]) w := run_typeAssert_lacksB Tryz.underlying175 (by kernel_rfl) (by kernel_rfl) v _ w
theorem ta_is_fault (v : Value) (w : World) : (Instr.typeAssert (.iface 81 v) 25 182 true).run Tryz.prog w = .ok (.tuple #[.nilIface, .bool false]) w := run_typeAssert_lacksB Tryz.underlying182 (by kernel_rfl) (by kernel_rfl) v _ w
theorem ta_un_fault (v : Value) (w : World) : (Instr.typeAssert (.iface 81 v) 25 174 true).run Tryz.prog w = .ok (.tuple #[.iface 81 v, .bool true]) w := run_typeAssert_hasB Tryz.underlying174 (by kernel_rfl) v _ w
theorem fault_unwrap (w : World) (g : Nat) (v : Value) (h : w.cell? ⟨g, 2, none⟩ = some v) :
    Calls Tryz.prog 154 #[.pointer (some ⟨g, 0, none⟩)] w fun e w' => e = .returned v ∧ w = w' := by
  go_enter Tryz.func154, Tryz.ntmps154
  go_wp2
  go_ret
  exact ⟨rfl, rfl⟩
theorem errno_comp : ∃ i, Tryz.prog.info? 69 = some i ∧ i.comparable = true := by
  have h : (Tryz.prog.info? 69).map (·.comparable) = some true := by kernel_rfl
  cases hq : Tryz.prog.info? 69 with
  | none => rw [hq] at h; cases h
  | some i => exact ⟨i, rfl, by rw [hq] at h; simpa using h⟩
theorem typeOf_errno : ∃ a : Addr, (∀ (v : Value) (w : World), (Extern.ReflectliteType.typeOf #[.iface 69 v]).run Tryz.prog w = .ok (.iface 167 (.agg #[.pointer (some a)])) w) ∧
    ∀ w : World, ((Extern.ReflectliteType.method fun t => do Extern.Rtype.noPackHeld "Comparable" t; (fun a => Value.bool a.comparable) <$> typeInfo t) #[.agg #[.pointer (some a)]]).run Tryz.prog w = .ok (.bool true) w :=
  ⟨⟨Tryz.prog.globals.size, 69, none⟩, fun v w => by kernel_rfl, fun w => by kernel_rfl⟩
theorem method_comp (n : Nat) (v : Value) (w : World) : (Go.method (n + 1) 167 v "Comparable").run Tryz.prog w = .ok (161, v) w := by kernel_rfl
theorem method_unwrap (n : Nat) (v : Value) (w : World) : (Go.method (n + 1) 81 v "Unwrap").run Tryz.prog w = .ok (154, v) w := by kernel_rfl
set_option maxHeartbeats 4000000 in
theorem is_inner (w : World) (g : Nat) (c k : Int) (h : w.cell? ⟨g, 2, none⟩ = some (.iface 69 (.int .i64 c))) :
    Calls Tryz.prog 77 #[.iface 81 (.pointer (some ⟨g, 0, none⟩)), .iface 69 (.int .i64 k), .bool true] w fun e w' => e = .returned (.bool (c == k)) ∧ w = w' := by
  obtain ⟨i, hi, hc⟩ := errno_comp
  have heq := fun (w : World) (a b : Int) => run_eql_iface_int (P := Tryz.prog) w a b Tryz.underlying25 Tryz.underlying69 hi hc
  have hty := run_eql_iface_types (P := Tryz.prog) 81 69 (.pointer (some ⟨g, 0, none⟩)) (.int .i64 k) Tryz.underlying25 (by decide) w
  have mU := method_unwrap
  have hU := Lib.hid (fault_unwrap w g _ h)
  have t1 := ta_is_errno
  have t2 := ta_un_errno
  have t3 := ta_uns_errno
  have t4 := ta_is_fault
  have t5 := ta_un_fault
  clear h hi hc
  by_cases h : c = k
  · have hb : (c == k) = true := by simpa using h
    clear h
    go_enter Tryz.func77, Tryz.ntmps77
    go_wp2
    refine wp_loop_rounds 2 ?_
    rw [rounds_succ]
    go_wp2_with (go_at_call 154; refine hU.out.mono ?_; rintro e w' ⟨rfl, rfl⟩)
    rw [rounds_succ]
    go_wp2
    go_ret
    exact ⟨ret_bool hb.symm, rfl⟩
  · have hb : (c == k) = false := by simpa using h
    clear h
    go_enter Tryz.func77, Tryz.ntmps77
    go_wp2
    refine wp_loop_rounds 2 ?_
    rw [rounds_succ]
    go_wp2_with (go_at_call 154; refine hU.out.mono ?_; rintro e w' ⟨rfl, rfl⟩)
    rw [rounds_succ]
    go_wp2
    go_ret
    exact ⟨ret_bool hb.symm, rfl⟩
set_option maxHeartbeats 4000000 in
theorem is_fault (w : World) (g : Nat) (c k : Int) (h : w.cell? ⟨g, 2, none⟩ = some (.iface 69 (.int .i64 c))) :
    Calls Tryz.prog 41 #[.iface 81 (.pointer (some ⟨g, 0, none⟩)), .iface 69 (.int .i64 k)] w fun e w' => e = .returned (.bool (c == k)) ∧ w = w' := by
  obtain ⟨i, hi, hc⟩ := errno_comp
  have h8 := @run_callFunc_extern Tryz.prog 76 _ Extern.ReflectliteType.typeOf Tryz.func76 (by kernel_rfl) (by kernel_rfl) (by kernel_rfl) (by kernel_rfl)
  have h32 := @run_callFunc_extern Tryz.prog 161 _ (Extern.ReflectliteType.method fun t => do Extern.Rtype.noPackHeld "Comparable" t; pure (.bool (← typeInfo t).comparable)) Tryz.func161 (by kernel_rfl) (by kernel_rfl) (by kernel_rfl) (by kernel_rfl)
  have heq := fun (w : World) (a b : Int) => run_eql_iface_int (P := Tryz.prog) w a b Tryz.underlying25 Tryz.underlying69 hi hc
  have hty := run_eql_iface_types (P := Tryz.prog) 81 69 (.pointer (some ⟨g, 0, none⟩)) (.int .i64 k) Tryz.underlying25 (by decide) w
  obtain ⟨ad, tT, cT⟩ := typeOf_errno
  have mR := method_comp
  have mU := method_unwrap
  have hU := Lib.hid (fault_unwrap w g _ h)
  have t1 := ta_is_errno
  have t2 := ta_un_errno
  have t3 := ta_uns_errno
  have t4 := ta_is_fault
  have t5 := ta_un_fault
  go_enter Tryz.func41, Tryz.ntmps41
  have HI := Lib.hid (is_inner w g c k h)
  clear h
  generalize (c == k) = r at *
  go_wp2_with (go_at_call 77; refine HI.out.mono ?_; rintro e w' ⟨rfl, rfl⟩)
  go_ret
  exact ⟨rfl, rfl⟩
theorem code_nil (w : World) : Calls Tryz.prog 20 #[.nilIface] w fun e w' => e = .returned (.int .i64 0) ∧ w = w' := by
  go_enter Tryz.func20, Tryz.ntmps20
  go_wp2
  go_ret
  exact ⟨rfl, rfl⟩
theorem code_fault (w : World) (g : Nat) (c : Int) (h : w.cell? ⟨g, 2, none⟩ = some (.iface 69 (.int .i64 c))) (h1 : 1 ≤ c) (h2 : c ≤ 15) :
    Calls Tryz.prog 20 #[.iface 81 (.pointer (some ⟨g, 0, none⟩))] w fun e w' => e = .returned (.int .i64 c) ∧ w = w' := by
  have HC := fun k => Lib.hid (is_fault w g c k h)
  clear h
  go_enter Tryz.func20, Tryz.ntmps20
  go_wp2
  go_loop [3] (fun i => ∃ k : Int, 1 ≤ k ∧ k ≤ c ∧ i = .int .i64 k) (fun i => (16 - intOf i).toNat)
  case atStart => exact ⟨1, by omega, h1, rfl⟩
  case round =>
    obtain ⟨k, hk1, hk2, rfl⟩ := hrel
    by_cases hkc : c = k
    · have hb : (c == k) = true := by simpa using hkc
      have HK := HC k
      rw [hb] at HK
      have HKC := Lib.hid hkc
      clear hkc hb HC
      go_wp2_with (go_at_call 41; refine HK.out.mono ?_; rintro e w' ⟨rfl, rfl⟩)
      go_ret
      exact ⟨ret_int HKC.out.symm, rfl⟩
    · have hb : (c == k) = false := by simpa using hkc
      have HK := HC k
      rw [hb] at HK
      clear hb HC
      go_wp2_with (go_at_call 41; refine HK.out.mono ?_; rintro e w' ⟨rfl, rfl⟩)
      go_round
      case rel => exact ⟨k + 1, by omega, by omega, rfl⟩
      case measure => simp [intOf]; omega
end
section
open Go.RowKit
def Typed (w : World) : Prop := w.cell? ⟨0, 0, none⟩ = some (.iface 167 (.agg #[.pointer (some ⟨1, 25, none⟩)]))
theorem Typed.kept {F : Nat → Prop} {w w' : World} (h : Typed w) (hk : Kept F w w') (h0 : ¬ F 0) : Typed w' :=
  (hk.cell (p := ⟨0, 0, none⟩) (cell_lt h) h0).trans h
theorem as_fault (w : World) (e b : Nat) (old : Value) (hg : Typed w) (ht : w.cell? ⟨b, 0, none⟩ = some old) (hf : w.frozen? ⟨b, 0, none⟩ = false) :
    Calls Tryz.prog 37 #[.iface 81 (.pointer (some ⟨e, 0, none⟩)), .iface 83 (.pointer (some ⟨b, 0, none⟩))] w fun ev w' =>
      ev = .returned (.bool true) ∧ Kept (Just b) w w' ∧ w'.cell? ⟨b, 0, none⟩ = some (.pointer (some ⟨e, 0, none⟩)) := by
  refine (as_hit ⟨e, 0, none⟩ ⟨b, 0, none⟩ old w hg ht hf).mono ?_
  rintro ev w' ⟨rfl, rfl⟩
  have hlt : b < w.heap.size := cell_lt ht
  have K := (((Kept.alloc (Just b) w (.cells #[.pointer (some ⟨b, 0, none⟩)] 83)).trans' (Kept.alloc (Just b) _ (.cells #[.pointer (some ⟨1, 83, none⟩), .pointer (some ⟨w.heap.size, 0, none⟩), .int .u64 150] 131))).trans' (Kept.alloc (Just b) _ (.cells #[.pointer (some ⟨1, 83, none⟩), .pointer (some ⟨w.heap.size, 0, none⟩), .int .u64 150] 131))).trans' (Kept.alloc (Just b) _ (.cells #[.pointer (some ⟨e, 0, none⟩)] 81))
  refine ⟨rfl, K.trans' (Kept.setCell _ ⟨b, 0, none⟩ _ rfl), ?_⟩
  refine World.cell?_setCell_same _ _ _ (u := old) ?_
  rw [World.cell?_alloc_lt _ _ ⟨b, 0, none⟩ (by simp; omega), World.cell?_alloc_lt _ _ ⟨b, 0, none⟩ (by simp; omega), World.cell?_alloc_lt _ _ ⟨b, 0, none⟩ (by simp; omega), World.cell?_alloc_lt _ _ ⟨b, 0, none⟩ hlt]
  exact ht
theorem is_none (w : World) (op : ByteArray) (id : Int) :
    Calls Tryz.prog 13 #[.nilIface, .int .i64 0, .string op, .int .i64 id] w fun e w' => e = .returned (.bool true) ∧ w = w' := by
  go_enter Tryz.func13, Tryz.ntmps13
  go_wp2_with (go_at_call 20; refine (code_nil _).mono ?_; rintro e w' ⟨rfl, rfl⟩)
  go_ret
  exact ⟨rfl, rfl⟩
theorem is_this (w : World) (v : Value) (op : ByteArray) (id code : Int) (F : Nat → Prop) (h : FaultAt w v op id code F) (h1 : 1 ≤ code) (h2 : code ≤ 15) (ht : Typed w) :
    Calls Tryz.prog 13 #[v, .int .i64 code, .string op, .int .i64 id] w (RetTrue w) := by
  obtain ⟨g, rfl, -, hg, hb⟩ := h
  have HC := Lib.hid (code_fault w g code (cell_at hb 2 _ rfl) h1 h2)
  have HB := Lib.hid hb
  have HG := Lib.hid hg
  have HT := Lib.hid ht
  have H1 := Lib.hid h1
  clear hb hg ht h2
  go_enter Tryz.func13, Tryz.ntmps13
  go_wp2_with (go_at_call 20; refine HC.out.mono ?_; rintro e w' ⟨rfl, rfl⟩)
  have K1 := Lib.hid (Kept.alloc Nob w (.cells #[.pointer none] 81))
  have T1 := Lib.hid (HT.out.kept K1.out (fun f => f))
  have A1 := Lib.hid (as_fault _ g w.heap.size (.pointer none) T1.out (by simp) (by simp))
  refine A1.out.mono ?_
  rintro e w2 ⟨rfl, k2, c2⟩
  have hb2 : w2.heap[g]? = some (.cells #[.string op, .int .i64 id, .iface 69 (.int .i64 code)] 85 (0, 0)) :=
    (k2.block g (Nat.lt_of_lt_of_le HG.out K1.out.size) (by show ¬ g = w.heap.size; have := HG.out; omega)).trans ((K1.out.block g HG.out (fun f => f)).trans HB.out)
  have c0 := cell_at hb2 0 _ rfl
  have c1 := cell_at hb2 1 _ rfl
  have KK := Lib.hid (K1.out.trans k2 (fun x hx hj => absurd hx (by show ¬ x < w.heap.size; have : x = w.heap.size := hj; omega)))
  clear k2 hb2
  go_wp2
  go_ret
  exact ⟨rfl, KK.out⟩
end
section
open Go.RowKit Go.Extern.Stop Go.Stop Go.Extern
set_option maxHeartbeats 4000000 in
theorem is_inner2 (w : World) (g g2 : Nat) (c k : Int) (h : w.cell? ⟨g, 2, none⟩ = some (.iface 81 (.pointer (some ⟨g2, 0, none⟩)))) (h2 : w.cell? ⟨g2, 2, none⟩ = some (.iface 69 (.int .i64 c))) :
    Calls Tryz.prog 77 #[.iface 81 (.pointer (some ⟨g, 0, none⟩)), .iface 69 (.int .i64 k), .bool true] w fun e w' => e = .returned (.bool (c == k)) ∧ w = w' := by
  obtain ⟨i, hi, hc⟩ := errno_comp
  have heq := fun (w : World) (a b : Int) => run_eql_iface_int (P := Tryz.prog) w a b Tryz.underlying25 Tryz.underlying69 hi hc
  have hty := run_eql_iface_types (P := Tryz.prog) 81 69 (.pointer (some ⟨g, 0, none⟩)) (.int .i64 k) Tryz.underlying25 (by decide) w
  have hty2 := run_eql_iface_types (P := Tryz.prog) 81 69 (.pointer (some ⟨g2, 0, none⟩)) (.int .i64 k) Tryz.underlying25 (by decide) w
  have mU := method_unwrap
  have hU := Lib.hid (fault_unwrap w g _ h)
  have hU2 := Lib.hid (fault_unwrap w g2 _ h2)
  have t1 := ta_is_errno
  have t2 := ta_un_errno
  have t3 := ta_uns_errno
  have t4 := ta_is_fault
  have t5 := ta_un_fault
  clear h h2 hi hc
  by_cases h : c = k
  · have hb : (c == k) = true := by simpa using h
    clear h
    go_enter Tryz.func77, Tryz.ntmps77
    go_wp2
    refine wp_loop_rounds 3 ?_
    rw [rounds_succ]
    go_wp2_with (go_at_call 154; refine hU.out.mono ?_; rintro e w' ⟨rfl, rfl⟩)
    rw [rounds_succ]
    go_wp2_with (go_at_call 154; refine hU2.out.mono ?_; rintro e w' ⟨rfl, rfl⟩)
    rw [rounds_succ]
    go_wp2
    go_ret
    exact ⟨ret_bool hb.symm, rfl⟩
  · have hb : (c == k) = false := by simpa using h
    clear h
    go_enter Tryz.func77, Tryz.ntmps77
    go_wp2
    refine wp_loop_rounds 3 ?_
    rw [rounds_succ]
    go_wp2_with (go_at_call 154; refine hU.out.mono ?_; rintro e w' ⟨rfl, rfl⟩)
    rw [rounds_succ]
    go_wp2_with (go_at_call 154; refine hU2.out.mono ?_; rintro e w' ⟨rfl, rfl⟩)
    rw [rounds_succ]
    go_wp2
    go_ret
    exact ⟨ret_bool hb.symm, rfl⟩
set_option maxHeartbeats 4000000 in
theorem is_fault2 (w : World) (g g2 : Nat) (c k : Int) (h : w.cell? ⟨g, 2, none⟩ = some (.iface 81 (.pointer (some ⟨g2, 0, none⟩)))) (h2 : w.cell? ⟨g2, 2, none⟩ = some (.iface 69 (.int .i64 c))) :
    Calls Tryz.prog 41 #[.iface 81 (.pointer (some ⟨g, 0, none⟩)), .iface 69 (.int .i64 k)] w fun e w' => e = .returned (.bool (c == k)) ∧ w = w' := by
  obtain ⟨i, hi, hc⟩ := errno_comp
  have h8 := @run_callFunc_extern Tryz.prog 76 _ Extern.ReflectliteType.typeOf Tryz.func76 (by kernel_rfl) (by kernel_rfl) (by kernel_rfl) (by kernel_rfl)
  have h32 := @run_callFunc_extern Tryz.prog 161 _ (Extern.ReflectliteType.method fun t => do Extern.Rtype.noPackHeld "Comparable" t; pure (.bool (← typeInfo t).comparable)) Tryz.func161 (by kernel_rfl) (by kernel_rfl) (by kernel_rfl) (by kernel_rfl)
  have heq := fun (w : World) (a b : Int) => run_eql_iface_int (P := Tryz.prog) w a b Tryz.underlying25 Tryz.underlying69 hi hc
  have hty := run_eql_iface_types (P := Tryz.prog) 81 69 (.pointer (some ⟨g, 0, none⟩)) (.int .i64 k) Tryz.underlying25 (by decide) w
  obtain ⟨ad, tT, cT⟩ := typeOf_errno
  have mR := method_comp
  have mU := method_unwrap
  have hU := Lib.hid (fault_unwrap w g _ h)
  have t1 := ta_is_errno
  have t2 := ta_un_errno
  have t3 := ta_uns_errno
  have t4 := ta_is_fault
  have t5 := ta_un_fault
  go_enter Tryz.func41, Tryz.ntmps41
  have HI := Lib.hid (is_inner2 w g g2 c k h h2)
  clear h h2
  generalize (c == k) = r at *
  go_wp2_with (go_at_call 77; refine HI.out.mono ?_; rintro e w' ⟨rfl, rfl⟩)
  go_ret
  exact ⟨rfl, rfl⟩
def InnerAt (w : World) (u : Value) (code : Int) (F : Nat → Prop) : Prop :=
  u = .iface 69 (.int .i64 code) ∨ ∃ op id, FaultAt w u op id code F
def OuterAt (w : World) (v : Value) (op : ByteArray) (id : Int) (code : Int) (F : Nat → Prop) : Prop :=
  ∃ g u, v = .iface 81 (.pointer (some ⟨g, 0, none⟩)) ∧ F g ∧ g < w.heap.size ∧ w.heap[g]? = some (.cells #[.string op, .int .i64 id, u] 85 (0, 0)) ∧ InnerAt w u code F
theorem InnerAt.kept {w w' : World} {v : Value} {code : Int} {F G : Nat → Prop} (h : InnerAt w v code F) (hk : Kept G w w') (hd : ∀ k, F k → ¬ G k) : InnerAt w' v code F :=
  h.imp (fun h => h) fun ⟨op, id, h⟩ => ⟨op, id, h.kept hk hd⟩
theorem InnerAt.mono {w : World} {v : Value} {code : Int} {F G : Nat → Prop} (h : InnerAt w v code F) (hg : ∀ k, k < w.heap.size → F k → G k) : InnerAt w v code G :=
  h.imp (fun h => h) fun ⟨op, id, h⟩ => ⟨op, id, h.mono hg⟩
theorem OuterAt.kept {w w' : World} {v : Value} {op : ByteArray} {id code : Int} {F G : Nat → Prop} (h : OuterAt w v op id code F) (hk : Kept G w w') (hd : ∀ k, F k → ¬ G k) : OuterAt w' v op id code F := by
  obtain ⟨g, u, h1, h2, h3, h4, h5⟩ := h
  exact ⟨g, u, h1, h2, Nat.lt_of_lt_of_le h3 hk.size, (hk.block g h3 (hd g h2)).trans h4, h5.kept hk hd⟩
theorem OuterAt.mono {w : World} {v : Value} {op : ByteArray} {id code : Int} {F G : Nat → Prop} (h : OuterAt w v op id code F) (hg : ∀ k, k < w.heap.size → F k → G k) : OuterAt w v op id code G := by
  obtain ⟨g, u, h1, h2, h3, h4, h5⟩ := h
  exact ⟨g, u, h1, hg g h3 h2, h3, h4, h5.mono hg⟩
theorem FaultAt.outer {w : World} {v : Value} {op : ByteArray} {id code : Int} {F : Nat → Prop} (h : FaultAt w v op id code F) : OuterAt w v op id code F := by
  obtain ⟨g, h1, h2, h3, h4⟩ := h
  exact ⟨g, _, h1, h2, h3, h4, .inl rfl⟩
theorem fault_new_in (w : World) (op : ByteArray) (id : Int) (u : Value) (code : Int) (F : Nat → Prop) (h : InnerAt w u code F) :
    Calls Tryz.prog 31 #[.string op, .int .i64 id, u] w fun e w' => ∃ v, e = .returned v ∧ OuterAt w' v op id code (fun x => F x ∨ w.heap.size ≤ x) ∧ Kept Nob w w' := by
  rcases h with rfl | ⟨op2, id2, h⟩
  · refine (fault_new w op id code).mono ?_
    rintro e w' ⟨g, rfl, hf, hk⟩
    exact ⟨_, rfl, (hf.mono (fun x _ hx => .inr hx)).outer, hk⟩
  · have H := Lib.hid h
    obtain ⟨g2, rfl, -⟩ := h
    go_enter Tryz.func31, Tryz.ntmps31
    go_wp2
    go_ret
    have hk := Kept.alloc Nob w (.cells #[.string op, .int .i64 id, .iface 81 (.pointer (some ⟨g2, 0, none⟩))] 85)
    exact ⟨_, rfl, ⟨w.heap.size, _, rfl, .inr (Nat.le_refl _), by simp, heap_alloc_new w _, .inr ⟨op2, id2, (H.out.kept hk (fun _ _ f => f)).mono fun x _ hx => .inl hx⟩⟩, hk⟩
theorem code_outer (w : World) (g : Nat) (c : Int) (h : ∀ k, Calls Tryz.prog 41 #[.iface 81 (.pointer (some ⟨g, 0, none⟩)), .iface 69 (.int .i64 k)] w fun e w' => e = .returned (.bool (c == k)) ∧ w = w') (h1 : 1 ≤ c) (h2 : c ≤ 15) :
    Calls Tryz.prog 20 #[.iface 81 (.pointer (some ⟨g, 0, none⟩))] w fun e w' => e = .returned (.int .i64 c) ∧ w = w' := by
  have HC := fun k => Lib.hid (h k)
  clear h
  go_enter Tryz.func20, Tryz.ntmps20
  go_wp2
  go_loop [3] (fun i => ∃ k : Int, 1 ≤ k ∧ k ≤ c ∧ i = .int .i64 k) (fun i => (16 - intOf i).toNat)
  case atStart => exact ⟨1, by omega, h1, rfl⟩
  case round =>
    obtain ⟨k, hk1, hk2, rfl⟩ := hrel
    by_cases hkc : c = k
    · have hb : (c == k) = true := by simpa using hkc
      have HK := HC k
      rw [hb] at HK
      have HKC := Lib.hid hkc
      clear hkc hb HC
      go_wp2_with (go_at_call 41; refine HK.out.mono ?_; rintro e w' ⟨rfl, rfl⟩)
      go_ret
      exact ⟨ret_int HKC.out.symm, rfl⟩
    · have hb : (c == k) = false := by simpa using hkc
      have HK := HC k
      rw [hb] at HK
      clear hb HC
      go_wp2_with (go_at_call 41; refine HK.out.mono ?_; rintro e w' ⟨rfl, rfl⟩)
      go_round
      case rel => exact ⟨k + 1, by omega, by omega, rfl⟩
      case measure => simp [intOf]; omega
theorem is_outer (w : World) (v : Value) (op : ByteArray) (id code : Int) (F : Nat → Prop) (h : OuterAt w v op id code F) (h1 : 1 ≤ code) (h2 : code ≤ 15) (ht : Typed w) :
    Calls Tryz.prog 13 #[v, .int .i64 code, .string op, .int .i64 id] w (RetTrue w) := by
  obtain ⟨g, u, rfl, -, hg, hb, hi⟩ := h
  have hIs : ∀ k, Calls Tryz.prog 41 #[.iface 81 (.pointer (some ⟨g, 0, none⟩)), .iface 69 (.int .i64 k)] w fun e w' => e = .returned (.bool (code == k)) ∧ w = w' := fun k => by
    rcases hi with rfl | ⟨op2, id2, g2, rfl, -, hg2, hb2⟩
    · exact is_fault w g code k (cell_at hb 2 _ rfl)
    · exact is_fault2 w g g2 code k (cell_at hb 2 _ rfl) (cell_at hb2 2 _ rfl)
  have HC := Lib.hid (code_outer w g code hIs h1 h2)
  have HB := Lib.hid hb
  have HG := Lib.hid hg
  have HT := Lib.hid ht
  have H1 := Lib.hid h1
  clear hb hg ht h2 hi hIs
  go_enter Tryz.func13, Tryz.ntmps13
  go_wp2_with (go_at_call 20; refine HC.out.mono ?_; rintro e w' ⟨rfl, rfl⟩)
  have K1 := Lib.hid (Kept.alloc Nob w (.cells #[.pointer none] 81))
  have T1 := Lib.hid (HT.out.kept K1.out (fun f => f))
  have A1 := Lib.hid (as_fault _ g w.heap.size (.pointer none) T1.out (by simp) (by simp))
  refine A1.out.mono ?_
  rintro e w2 ⟨rfl, k2, c2⟩
  have hb2 : w2.heap[g]? = some (.cells #[.string op, .int .i64 id, u] 85 (0, 0)) :=
    (k2.block g (Nat.lt_of_lt_of_le HG.out K1.out.size) (by show ¬ g = w.heap.size; have := HG.out; omega)).trans ((K1.out.block g HG.out (fun f => f)).trans HB.out)
  have c0 := cell_at hb2 0 _ rfl
  have c1 := cell_at hb2 1 _ rfl
  have KK := Lib.hid (K1.out.trans k2 (fun x hx hj => absurd hx (by show ¬ x < w.heap.size; have : x = w.heap.size := hj; omega)))
  clear k2 hb2
  go_wp2
  go_ret
  exact ⟨rfl, KK.out⟩
def MaybeOuter (w : World) (v : Value) (op : ByteArray) (id : Int) (code : Int) (F : Nat → Prop) : Prop :=
  (code = 0 ∧ v = .nilIface) ∨ (1 ≤ code ∧ code ≤ 15 ∧ OuterAt w v op id code F)
theorem MaybeOuter.kept {w w' : World} {v : Value} {op : ByteArray} {id code : Int} {F G : Nat → Prop} (h : MaybeOuter w v op id code F) (hk : Kept G w w') (hd : ∀ k, F k → ¬ G k) : MaybeOuter w' v op id code F :=
  h.imp (fun h => h) fun ⟨a, b, c⟩ => ⟨a, b, c.kept hk hd⟩
theorem is_maybe (w : World) (v : Value) (op : ByteArray) (id code : Int) (F : Nat → Prop) (h : MaybeOuter w v op id code F) (ht : Typed w) :
    Calls Tryz.prog 13 #[v, .int .i64 code, .string op, .int .i64 id] w (RetTrue w) := by
  rcases h with ⟨rfl, rfl⟩ | ⟨h1, h2, h3⟩
  · exact (is_none w op id).mono fun e w' ⟨q1, q2⟩ => ⟨q1, q2 ▸ Kept.refl _ _⟩
  · exact is_outer w v op id code F h3 h1 h2 ht
def MaybeInner (w : World) (v : Value) (code : Int) (F : Nat → Prop) : Prop :=
  (code = 0 ∧ v = .nilIface) ∨ (1 ≤ code ∧ code ≤ 15 ∧ InnerAt w v code F)
end
end Go.Proofs.YthppgchmamonnaaGreatDoor
