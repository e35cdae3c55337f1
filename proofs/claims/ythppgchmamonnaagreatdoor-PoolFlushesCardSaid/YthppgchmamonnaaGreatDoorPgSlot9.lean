/- Pages as bytes: Parse. -/
import Derived.Test.YthppgchmamonnaaGreatDoorPgSlot8
namespace Go.Proofs.YthppgchmamonnaaGreatDoor
open Go.RowKit

/-- parse, in one -/
theorem slots_parse_any (w : World) (v : Value) (ys : List Int) (F : Nat → Prop) (h : Reads w v (ys.map (Value.int .u8)) F) (hl : ys.length = 512) (hB : InB ys) :
    Calls Tryz.prog 100 #[v] w (RetParse w ys) := by
  by_cases h60 : ys.getD 1 0 ≤ 60
  · exact slots_parse w v ys F h hl hB h60
  · refine (slots_parse_many w v ys F h hl (by omega)).mono fun e w' hr => ⟨fun _ => hr, fun p hp => ?_⟩
    rw [parseOf, if_pos (by omega)] at hp
    cases hp
theorem slots_Parse (w : World) (v : Value) (ys : List Int) (F : Nat → Prop) (h : Reads w v (ys.map (Value.int .u8)) F) (hl : ys.length = 512) (hB : InB ys) (p : PgM) (hp : parseOf ys = some p) :
    Calls Tryz.prog 68 #[v] w fun e w' => ∃ pg, e = .returned (.tuple #[.pointer (some ⟨pg, 0, none⟩), .nilIface]) ∧ w.heap.size ≤ pg ∧ PageAt w' pg p (fun x => w.heap.size ≤ x ∧ x ≠ pg) ∧ Kept Nob w w' := by
  obtain ⟨va, vc, rfl, -⟩ := h.shape
  rw [List.length_map, hl] at h ⊢
  have H : Hid (Calls Tryz.prog 100 #[.slice va 512 vc] w fun e w' => ∃ pg, e = .returned (.pointer (some ⟨pg, 0, none⟩)) ∧ w.heap.size ≤ pg ∧ PageAt w' pg p (fun x => w.heap.size ≤ x ∧ x ≠ pg) ∧ Kept Nob w w') :=
    Lib.hid ((slots_parse_any w _ ys F h hl hB).mono fun e w' hr => hr.2 p hp)
  clear h hl hB hp
  go_enter Tryz.func68, Tryz.ntmps68
  go_wp2_with (go_at_call 100; (with_reducible refine H.out.mono ?_); rintro e w1 ⟨pg, rfl, hpg, hpa, hk⟩; have HP := Lib.hid hpa; have HG := Lib.hid hpg; have HK := Lib.hid hk; clear hpa hpg hk)
  go_ret2
  exact ⟨pg, rfl, HG.out, HP.out, HK.out⟩
theorem slots_Parse_no (w : World) (v : Value) (ys : List Int) (F : Nat → Prop) (h : Reads w v (ys.map (Value.int .u8)) F) (hl : ys.length = 512) (hB : InB ys) (hp : parseOf ys = none) :
    Calls Tryz.prog 68 #[v] w fun e w' => ∃ g, e = .returned (.tuple #[.pointer none, .iface 81 (.pointer (some ⟨g, 0, none⟩))]) ∧ FaultAt w' (.iface 81 (.pointer (some ⟨g, 0, none⟩))) opPage 0 10 (From w.heap.size) ∧ Kept Nob w w' := by
  obtain ⟨va, vc, rfl, -⟩ := h.shape
  rw [List.length_map, hl] at h ⊢
  have H : Hid (Calls Tryz.prog 100 #[.slice va 512 vc] w fun e w' => e = .returned (.pointer none) ∧ Kept Nob w w') :=
    Lib.hid ((slots_parse_any w _ ys F h hl hB).mono fun e w' hr => hr.1 hp)
  have HB := fun w => Lib.hid (page_blame w 0 10)
  clear h hl hB hp
  go_enter Tryz.func68, Tryz.ntmps68
  go_wp2_with (first
    | (go_at_call 100; (with_reducible refine H.out.mono ?_); rintro e w1 ⟨rfl, hk⟩; have HK := Lib.hid hk; clear hk)
    | (go_at_call 82; (with_reducible refine (HB _).out.mono ?_); rintro e w2 ⟨g1, rfl, ho1, hk1⟩; have HO := Lib.hid ho1; have HK1 := Lib.hid hk1; clear ho1 hk1))
  go_ret2
  exact ⟨g1, rfl, HO.out.mono fun x _ hx => Nat.le_trans HK.out.size hx, HK.out.then HK1.out⟩
end Go.Proofs.YthppgchmamonnaaGreatDoor
