/- ring.Check; rel.Check, rel.CheckQuery. -/
import Derived.Test.YthjiobmglebmdaaGreatDoorPgScRing
import Derived.Test.YthjiobmglebmdaaGreatDoorPgScTxt
namespace Go.Proofs.YthjiobmglebmdaaGreatDoor
open Go.RowKit
open Go.Proofs.YthjiobmglebmdaaGreatDoor.Geo Go.Proofs.YthjiobmglebmdaaGreatDoor.Txt

/-- nil just where p holds; else an error -/
def NilIff (p : Prop) (v : Value) : Prop := (p ∧ v = .nilIface) ∨ (¬ p ∧ ∃ t u, v = .iface t u)
/-- behind a call that checks -/
def RetChk (w : World) (p : Prop) (e : Ending) (w' : World) : Prop := ∃ v, e = .returned v ∧ NilIff p v ∧ Kept Nob w w'
theorem NilIff.yes {p : Prop} (h : p) : NilIff p .nilIface := .inl ⟨h, rfl⟩
theorem NilIff.no {p : Prop} (h : ¬ p) (t : TypeId) (u : Value) : NilIff p (.iface t u) := .inr ⟨h, t, u, rfl⟩
theorem NilIff.congr {p q : Prop} {v : Value} (h : NilIff p v) (e : p ↔ q) : NilIff q v := by rw [← propext e]; exact h

set_option maxRecDepth 100000 in
set_option maxHeartbeats 4000000 in
theorem ring_check (w : World) (v : Value) (l : List Pt) (F : Nat → Prop) (h : PtsAt w v l F) (hl : l.length < 1000000000) :
    Calls Tryz.prog 92 #[v] w (RetChk w (RingOk l)) := by
  obtain ⟨a, cap, rfl⟩ := h.shape
  have HP := Lib.hid h
  clear h
  have HBl := fun wx (i : Nat) (u : Value) => Lib.hid (ring_blame wx i 31 u)
  by_cases h3 : l.length < 3
  · have HN : Hid (¬ RingOk l) := Lib.hid (fun h => by have := h.1; omega)
    have h3' : ((l.length : Int) < 3) := by omega
    clear h3
    go_enter Tryz.func92, Tryz.ntmps92
    go_wp2_with fail
    refine (HBl _ _ _).out.mono ?_
    rintro e w1 ⟨g, rfl, hk⟩
    have HK := Lib.hid hk
    clear hk
    go_wp2_with fail
    go_ret
    exact ⟨_, rfl, NilIff.no HN.out _ _, HK.out⟩
  by_cases h64 : 64 < l.length
  · have HN : Hid (¬ RingOk l) := Lib.hid (fun h => by have := h.2.1; omega)
    have h3' : ¬ ((l.length : Int) < 3) := by omega
    have h64' : ((64 : Int) < (l.length : Int)) := by omega
    clear h3 h64
    go_enter Tryz.func92, Tryz.ntmps92
    go_wp2_with fail
    refine (HBl _ _ _).out.mono ?_
    rintro e w1 ⟨g, rfl, hk⟩
    have HK := Lib.hid hk
    clear hk
    go_wp2_with fail
    go_ret
    exact ⟨_, rfl, NilIff.no HN.out _ _, HK.out⟩
  have H3 := Lib.hid h3
  have H64 := Lib.hid h64
  have h3' : ¬ ((l.length : Int) < 3) := by omega
  have h64' : ¬ ((64 : Int) < (l.length : Int)) := by omega
  clear h3 h64
  go_enter Tryz.func92, Tryz.ntmps92
  go_wp2_with fail
  clear h3' h64'
  go_loopw [22] (fun i wr => ∃ k : Nat, k ≤ l.length ∧ i = .int .i64 k ∧ (∀ p ∈ l.take k, ok p = true) ∧ Kept Nob w wr) (fun i _ => l.length - (intOf i).toNat)
  case atStart => exact ⟨0, Nat.zero_le _, rfl, (fun p hp => by simp at hp), Kept.refl _ _⟩
  case round =>
    obtain ⟨k, hk, rfl, hok, hw⟩ := hrel
    have HOk := Lib.hid hok
    have HW := Lib.hid hw
    clear hok hw
    by_cases hlt : k < l.length
    · obtain ⟨b, o, rfl, -, hb, -, c0, c1⟩ := (HP.out.nob HW.out).at (List.getElem?_eq_getElem hlt)
      have HT : Hid (l.take (k + 1) = l.take k ++ [l[k]]) := Lib.hid (List.take_succ_eq_append_getElem hlt)
      have HC := fun wx : World => Lib.hid (checkPoint_any wx l[k].1 l[k].2 (ok l[k]) rfl)
      have HM := Lib.hid (List.getElem_mem hlt)
      generalize l[k] = pk at *
      obtain ⟨x, y⟩ := pk
      simp only at c0 c1 HC
      obtain ⟨r, hr⟩ : ∃ r, ok (x, y) = r := ⟨_, rfl⟩
      rw [hr] at HC
      have HR := Lib.hid hr
      clear hr
      cases r with
      | false =>
        simp only [Bool.false_eq_true, if_false] at HC
        have HN : Hid (¬ RingOk l) := Lib.hid (fun h => by have := h.2.2.1 _ HM.out; rw [HR.out] at this; cases this)
        go_wp2_with fail
        refine (HC _).out.mono ?_
        rintro e w1 ⟨rfl, hk1⟩
        have HK := Lib.hid ((HW.out.then (Kept.alloc Nob _ _)).then hk1)
        clear hk1
        go_wp2_with fail
        refine (HBl _ _ _).out.mono ?_
        rintro e w2 ⟨g, rfl, hk2⟩
        have HK2 := Lib.hid (HK.out.then hk2)
        clear hk2
        go_wp2_with fail
        go_ret
        exact ⟨_, rfl, NilIff.no HN.out _ _, HK2.out⟩
      | true =>
        simp only [if_true] at HC
        go_wp2_with fail
        refine (HC _).out.mono ?_
        rintro e w1 ⟨rfl, hk1⟩
        have HK := Lib.hid ((HW.out.then (Kept.alloc Nob _ _)).then hk1)
        clear hk1
        go_wp2_with fail
        go_roundw
        case rel =>
          refine ⟨k + 1, by omega, by go_num, fun p hp => ?_, HK.out⟩
          rw [HT.out, List.mem_append, List.mem_singleton] at hp
          rcases hp with hp | rfl
          · exact HOk.out p hp
          · exact HR.out
        case measure => simp [intOf]; omega
    · obtain rfl : k = l.length := by omega
      have HAll : Hid (∀ p ∈ l, ok p = true) := Lib.hid (fun p hp => HOk.out p (by rw [List.take_length]; exact hp))
      have HSp := fun (wx : World) (kx : Kept Nob w wx) (i k : Nat) (hi : i < l.length) (hk : k < l.length) => Lib.hid (ring_spoil wx _ l F (HP.out.nob kx) i k hi hk hl HAll.out)
      clear HOk HP
      go_wp2_with fail
      go_loopw [36] (fun i wr => ∃ k : Nat, k ≤ l.length ∧ i = .int .i64 k ∧ (∀ i j, i < k → j < l.length → j ≠ i → spoil l i j = false) ∧ Kept Nob w wr) (fun i _ => l.length - (intOf i).toNat)
      case atStart => exact ⟨0, Nat.zero_le _, rfl, (fun i j hi => by omega), HW.out⟩
      case round =>
        clear HW
        obtain ⟨i, hi, rfl, hsp, hw⟩ := hrel
        have HS := Lib.hid hsp
        have HW := Lib.hid hw
        clear hsp hw
        by_cases hlt : i < l.length
        · go_wp2_with fail
          go_loopw [40] (fun j wr => ∃ k : Nat, k ≤ l.length ∧ j = .int .i64 k ∧ (∀ j, j < k → j ≠ i → spoil l i j = false) ∧ Kept Nob w wr) (fun i _ => l.length - (intOf i).toNat)
          case atStart => exact ⟨0, Nat.zero_le _, rfl, (fun j hj => by omega), HW.out⟩
          case round =>
            clear HW
            obtain ⟨k, hk2, rfl, hsp, hw⟩ := hrel
            have HS2 := Lib.hid hsp
            have HW := Lib.hid hw
            clear hsp hw
            by_cases hlt2 : k < l.length
            · by_cases hki : k = i
              · have hb : ((k : Int) != (i : Int)) = false := by rw [hki]; simp
                have HKI := Lib.hid hki
                clear hki
                go_wp2_with fail
                go_roundw
                case rel =>
                  refine ⟨k + 1, by omega, by go_num, fun j hj hne => ?_, HW.out⟩
                  have := HKI.out
                  exact HS2.out j (by omega) hne
                case measure => simp [intOf]; omega
              · have hb : ((k : Int) != (i : Int)) = true := by simpa using (show ¬ (k : Int) = (i : Int) by omega)
                have HSk := fun wx kx => HSp wx kx i k hlt hlt2
                obtain ⟨r, hr⟩ : ∃ r, spoil l i k = r := ⟨_, rfl⟩
                rw [hr] at HSk
                have HR := Lib.hid hr
                have HKI := Lib.hid hki
                clear hr hki
                cases r with
                | false =>
                  go_wp2_with fail
                  refine (HSk _ HW.out).out.mono ?_
                  rintro e w3 ⟨rfl, hk3⟩
                  have HK3 := Lib.hid (HW.out.then hk3)
                  clear hk3
                  go_wp2_with fail
                  go_roundw
                  case rel =>
                    refine ⟨k + 1, by omega, by go_num, fun j hj hne => ?_, HK3.out⟩
                    by_cases hjk : j = k
                    · rw [hjk]; exact HR.out
                    · exact HS2.out j (by omega) hne
                  case measure => simp [intOf]; omega
                | true =>
                  have HN : Hid (¬ RingOk l) := Lib.hid (fun h => by have := h.2.2.2 i k hlt hlt2 HKI.out; rw [HR.out] at this; cases this)
                  go_wp2_with fail
                  refine (HSk _ HW.out).out.mono ?_
                  rintro e w3 ⟨rfl, hk3⟩
                  have HK3 := Lib.hid (HW.out.then hk3)
                  clear hk3
                  go_wp2_with fail
                  refine (HBl _ _ _).out.mono ?_
                  rintro e w2 ⟨g, rfl, hk2⟩
                  have HK2 := Lib.hid (HK3.out.then hk2)
                  clear hk2
                  go_wp2_with fail
                  go_ret
                  exact ⟨_, rfl, NilIff.no HN.out _ _, HK2.out⟩
            · obtain rfl : k = l.length := by omega
              go_wp2_with fail
              go_roundw
              case rel =>
                refine ⟨i + 1, by omega, by go_num, fun i' j hi' hj hne => ?_, HW.out⟩
                by_cases hii : i' = i
                · rw [hii]; exact HS2.out j hj (by omega)
                · exact HS.out i' j (by omega) hj hne
              case measure => simp [intOf]; omega
        · obtain rfl : i = l.length := by omega
          have HY : Hid (RingOk l) := Lib.hid ⟨by have := H3.out; omega, by have := H64.out; omega, HAll.out, fun i k hi hk hne => HS.out i k hi hk hne⟩
          go_wp2_with fail
          go_ret
          exact ⟨_, rfl, NilIff.yes HY.out, HW.out⟩
end Go.Proofs.YthjiobmglebmdaaGreatDoor
