/- errors.Is on the faults of this program; the verifier's Code. -/
import Derived.Test.YthjiobmglebmdaaGreatDoorPgFault
import Derived.LaidEql
import Derived.Stop.Asserts
import Derived.RowKitTokens
namespace Go.Proofs.YthjiobmglebmdaaGreatDoor
open Go.RowKit Go.Extern.Stop Go.Stop Go.Extern

section
variable {P : Program} (w : World)
theorem run_equalIn_iface_int (d : Nat) {ti tn : TypeId} {ms : Array (String × TypeId)} {i : TypeInfo} {k : IntKind} (a b : Int)
    (hi : P.underlying ti = some (.interface ms)) (hn : P.underlying tn = some (.int k)) (hinfo : P.info? tn = some i) (hcomp : i.comparable = true) :
    (Op.equalIn (d + 2) ti (.iface tn (.int k a)) (.iface tn (.int k b))).run P w = .ok (a == b) w := by
  simp [Op.equalIn, run_underlying hi, run_underlying hn, typeInfo, hinfo, hcomp]
/-- 'x == y', both interface values of one integer type -/
theorem run_eql_iface_int {ti tn : TypeId} {ms : Array (String × TypeId)} {i : TypeInfo} {k : IntKind} (a b : Int)
    (hi : P.underlying ti = some (.interface ms)) (hn : P.underlying tn = some (.int k)) (hinfo : P.info? tn = some i) (hcomp : i.comparable = true) :
    (binOp .eql ti (.iface tn (.int k a)) (.iface tn (.int k b))).run P w = .ok (.bool (a == b)) w := by
  simp only [binOp]
  simp [Op.equal, Op.maxDepth, run_equalIn_iface_int w 9998 a b hi hn hinfo hcomp]
end

/-! what errors.is's assertions find -/
theorem ta_is_errno (v : Value) (w : World) : (Instr.typeAssert (.iface 31 v) 51 160 true).run Tryz.prog w = .ok (.tuple #[.nilIface, .bool false]) w := run_typeAssert_lacksB Tryz.underlying160 (by kernel_rfl) (by kernel_rfl) v _ w
theorem ta_un_errno (v : Value) (w : World) : (Instr.typeAssert (.iface 31 v) 51 163 true).run Tryz.prog w = .ok (.tuple #[.nilIface, .bool false]) w := run_typeAssert_lacksB Tryz.underlying163 (by kernel_rfl) (by kernel_rfl) v _ w
theorem ta_uns_errno (v : Value) (w : World) : (Instr.typeAssert (.iface 31 v) 51 164 true).run Tryz.prog w = .ok (.tuple #[.nilIface, .bool false]) w := run_typeAssert_lacksB Tryz.underlying164 (by kernel_rfl) (by kernel_rfl) v _ w
theorem ta_is_fault (v : Value) (w : World) : (Instr.typeAssert (.iface 94 v) 51 160 true).run Tryz.prog w = .ok (.tuple #[.nilIface, .bool false]) w := run_typeAssert_lacksB Tryz.underlying160 (by kernel_rfl) (by kernel_rfl) v _ w
theorem ta_un_fault (v : Value) (w : World) : (Instr.typeAssert (.iface 94 v) 51 163 true).run Tryz.prog w = .ok (.tuple #[.iface 94 v, .bool true]) w := run_typeAssert_hasB Tryz.underlying163 (by kernel_rfl) v _ w
/-- (*Fault).Unwrap -/
theorem fault_unwrap (w : World) (g : Nat) (v : Value) (h : w.cell? ⟨g, 2, none⟩ = some v) :
    Calls Tryz.prog 188 #[.pointer (some ⟨g, 0, none⟩)] w fun e w' => e = .returned v ∧ w = w' := by
  go_enter Tryz.func188, Tryz.ntmps188
  go_wp2
  go_ret
  exact ⟨rfl, rfl⟩
theorem errno_comp : ∃ i, Tryz.prog.info? 31 = some i ∧ i.comparable = true := by
  have h : (Tryz.prog.info? 31).map (·.comparable) = some true := by kernel_rfl
  cases hq : Tryz.prog.info? 31 with
  | none => rw [hq] at h; cases h
  | some i => exact ⟨i, rfl, by rw [hq] at h; simpa using h⟩

/-- what 'reflectlite.TypeOf(target).Comparable()' gives at a number -/
theorem typeOf_errno : ∃ a : Addr, (∀ (v : Value) (w : World), (Extern.ReflectliteType.typeOf #[.iface 31 v]).run Tryz.prog w = .ok (.iface 158 (.agg #[.pointer (some a)])) w) ∧
    ∀ w : World, ((Extern.ReflectliteType.method fun t => do Extern.Rtype.noPackHeld "Comparable" t; (fun a => Value.bool a.comparable) <$> typeInfo t) #[.agg #[.pointer (some a)]]).run Tryz.prog w = .ok (.bool true) w :=
  ⟨⟨Tryz.prog.globals.size, 31, none⟩, fun v w => by kernel_rfl, fun w => by kernel_rfl⟩

theorem method_comp (n : Nat) (v : Value) (w : World) : (Go.method (n + 1) 158 v "Comparable").run Tryz.prog w = .ok (195, v) w := by kernel_rfl
theorem method_unwrap (n : Nat) (v : Value) (w : World) : (Go.method (n + 1) 94 v "Unwrap").run Tryz.prog w = .ok (188, v) w := by kernel_rfl

set_option maxHeartbeats 4000000 in
theorem is_inner (w : World) (g : Nat) (c k : Int) (h : w.cell? ⟨g, 2, none⟩ = some (.iface 31 (.int .i64 c))) :
    Calls Tryz.prog 70 #[.iface 94 (.pointer (some ⟨g, 0, none⟩)), .iface 31 (.int .i64 k), .bool true] w fun e w' => e = .returned (.bool (c == k)) ∧ w = w' := by
  obtain ⟨i, hi, hc⟩ := errno_comp
  have heq := fun (w : World) (a b : Int) => run_eql_iface_int (P := Tryz.prog) w a b Tryz.underlying51 Tryz.underlying31 hi hc
  have hty := run_eql_iface_types (P := Tryz.prog) 94 31 (.pointer (some ⟨g, 0, none⟩)) (.int .i64 k) Tryz.underlying51 (by decide) w
  have mU := method_unwrap
  have hU := Lib.hid (fault_unwrap w g _ h)
  have t1 := ta_is_errno
  have t2 := ta_un_errno
  have t3 := ta_uns_errno
  have t4 := ta_is_fault
  have t5 := ta_un_fault
  clear h hi hc
  by_cases h : c = k
  · have hb : (c == k) = true := by simpa using h
    clear h
    go_enter Tryz.func70, Tryz.ntmps70
    go_wp2
    refine wp_loop_rounds 2 ?_
    rw [rounds_succ]
    go_wp2_with (go_at_call 188; refine hU.out.mono ?_; rintro e w' ⟨rfl, rfl⟩)
    rw [rounds_succ]
    go_wp2
    go_ret
    exact ⟨ret_bool hb.symm, rfl⟩
  · have hb : (c == k) = false := by simpa using h
    clear h
    go_enter Tryz.func70, Tryz.ntmps70
    go_wp2
    refine wp_loop_rounds 2 ?_
    rw [rounds_succ]
    go_wp2_with (go_at_call 188; refine hU.out.mono ?_; rintro e w' ⟨rfl, rfl⟩)
    rw [rounds_succ]
    go_wp2
    go_ret
    exact ⟨ret_bool hb.symm, rfl⟩

set_option maxHeartbeats 4000000 in
theorem is_fault (w : World) (g : Nat) (c k : Int) (h : w.cell? ⟨g, 2, none⟩ = some (.iface 31 (.int .i64 c))) :
    Calls Tryz.prog 41 #[.iface 94 (.pointer (some ⟨g, 0, none⟩)), .iface 31 (.int .i64 k)] w fun e w' => e = .returned (.bool (c == k)) ∧ w = w' := by
  obtain ⟨i, hi, hc⟩ := errno_comp
  have h8 := @run_callFunc_extern Tryz.prog 69 _ Extern.ReflectliteType.typeOf Tryz.func69 (by kernel_rfl) (by kernel_rfl) (by kernel_rfl) (by kernel_rfl)
  have h32 := @run_callFunc_extern Tryz.prog 195 _ (Extern.ReflectliteType.method fun t => do Extern.Rtype.noPackHeld "Comparable" t; pure (.bool (← typeInfo t).comparable)) Tryz.func195 (by kernel_rfl) (by kernel_rfl) (by kernel_rfl) (by kernel_rfl)
  have heq := fun (w : World) (a b : Int) => run_eql_iface_int (P := Tryz.prog) w a b Tryz.underlying51 Tryz.underlying31 hi hc
  have hty := run_eql_iface_types (P := Tryz.prog) 94 31 (.pointer (some ⟨g, 0, none⟩)) (.int .i64 k) Tryz.underlying51 (by decide) w
  obtain ⟨ad, tT, cT⟩ := typeOf_errno
  have mR := method_comp
  have mU := method_unwrap
  have hU := Lib.hid (fault_unwrap w g _ h)
  have t1 := ta_is_errno
  have t2 := ta_un_errno
  have t3 := ta_uns_errno
  have t4 := ta_is_fault
  have t5 := ta_un_fault
  go_enter Tryz.func41, Tryz.ntmps41
  have HI := Lib.hid (is_inner w g c k h)
  clear h
  generalize (c == k) = r at *
  go_wp2_with (go_at_call 70; refine HI.out.mono ?_; rintro e w' ⟨rfl, rfl⟩)
  go_ret
  exact ⟨rfl, rfl⟩

/-- the verifier's Code, of no error -/
theorem code_nil (w : World) : Calls Tryz.prog 19 #[.nilIface] w fun e w' => e = .returned (.int .i64 0) ∧ w = w' := by
  go_enter Tryz.func19, Tryz.ntmps19
  go_wp2
  go_ret
  exact ⟨rfl, rfl⟩
/-- the verifier's Code, of a fault -/
theorem code_fault (w : World) (g : Nat) (c : Int) (h : w.cell? ⟨g, 2, none⟩ = some (.iface 31 (.int .i64 c))) (h1 : 1 ≤ c) (h2 : c ≤ 15) :
    Calls Tryz.prog 19 #[.iface 94 (.pointer (some ⟨g, 0, none⟩))] w fun e w' => e = .returned (.int .i64 c) ∧ w = w' := by
  have HC := fun k => Lib.hid (is_fault w g c k h)
  clear h
  go_enter Tryz.func19, Tryz.ntmps19
  go_wp2
  go_loop [3] (fun i => ∃ k : Int, 1 ≤ k ∧ k ≤ c ∧ i = .int .i64 k) (fun i => (16 - intOf i).toNat)
  case atStart => exact ⟨1, by omega, h1, rfl⟩
  case round =>
    obtain ⟨k, hk1, hk2, rfl⟩ := hrel
    by_cases hkc : c = k
    · have hb : (c == k) = true := by simpa using hkc
      have HK := HC k
      rw [hb] at HK
      have HKC := Lib.hid hkc
      clear hkc hb HC
      go_wp2_with (go_at_call 41; refine HK.out.mono ?_; rintro e w' ⟨rfl, rfl⟩)
      go_ret
      exact ⟨ret_int HKC.out.symm, rfl⟩
    · have hb : (c == k) = false := by simpa using hkc
      have HK := HC k
      rw [hb] at HK
      clear hb HC
      go_wp2_with (go_at_call 41; refine HK.out.mono ?_; rintro e w' ⟨rfl, rfl⟩)
      go_round
      case rel => exact ⟨k + 1, by omega, by omega, rfl⟩
      case measure => simp [intOf]; omega
end Go.Proofs.YthjiobmglebmdaaGreatDoor
