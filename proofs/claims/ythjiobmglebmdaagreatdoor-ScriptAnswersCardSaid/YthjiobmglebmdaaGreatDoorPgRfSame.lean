/- The document's own CheckQuery, Points, Same; May. -/
import Derived.Test.YthjiobmglebmdaaGreatDoorPgRfCheck
namespace Go.Proofs.YthjiobmglebmdaaGreatDoor
open Go.RowKit
open Go.Proofs.YthjiobmglebmdaaGreatDoor.Geo Go.Proofs.YthjiobmglebmdaaGreatDoor.Txt

set_option maxRecDepth 100000 in
set_option maxHeartbeats 8000000 in
theorem ref_CheckQuery (w : World) (k x1 y1 x2 y2 : Int) (v : Value) (l : List Pt) (F : Nat → Prop) (h : PtsAt w v l F) (hl : l.length < 1000000000) :
    Calls Tryz.prog 16 #[.agg #[.int .i64 k, .int .i64 x1, .int .i64 y1, .int .i64 x2, .int .i64 y2, v]] w (RetCode w (QrOk ⟨k, ⟨(x1, y1), (x2, y2)⟩, l⟩)) := by
  obtain ⟨a, cap, rfl⟩ := h.shape
  have HP := Lib.hid h
  clear h
  by_cases h12 : k = 1 ∨ k = 2
  · have HR : Hid (cbCode x1 y1 x2 y2 = 0 ↔ QrOk ⟨k, ⟨(x1, y1), (x2, y2)⟩, l⟩) := Lib.hid (by
      rw [cbCode_zero, qr12 (q := ⟨k, ⟨(x1, y1), (x2, y2)⟩, l⟩) h12]
      exact bxOk_iff (x1, y1) (x2, y2))
    have HC := fun wx : World => Lib.hid (ref_CheckBox wx x1 y1 x2 y2)
    generalize cbCode x1 y1 x2 y2 = res at *
    rcases h12 with rfl | rfl
    all_goals
      go_enter Tryz.func16, Tryz.ntmps16
      go_wp2_with fail
      refine (HC _).out.mono ?_
      rintro e w1 ⟨rfl, hk1⟩
      have HK := Lib.hid ((Kept.alloc Nob w _).then hk1)
      clear hk1
      go_wp2_with fail
      go_ret
      exact ⟨_, rfl, HR.out, HK.out⟩
  by_cases h3 : k = 3
  · subst h3
    clear h12
    have HB := Lib.hid (qr3 (q := ⟨3, ⟨(x1, y1), (x2, y2)⟩, l⟩) rfl)
    obtain ⟨r, hr⟩ : ∃ r, ok (x1, y1) = r := ⟨_, rfl⟩
    have HC := fun wx : World => Lib.hid (ref_Point wx x1 y1 r hr)
    have HR := Lib.hid hr
    clear hr
    cases r with
    | false =>
      have HN : Hid (¬ QrOk ⟨3, ⟨(x1, y1), (x2, y2)⟩, l⟩) := Lib.hid (fun h => by have := HB.out.1 h; rw [HR.out] at this; cases this)
      clear HB
      go_enter Tryz.func16, Tryz.ntmps16
      go_wp2_with fail
      refine (HC _).out.mono ?_
      rintro e w1 ⟨rfl, hk1⟩
      have HK := Lib.hid ((Kept.alloc Nob w _).then hk1)
      clear hk1
      go_wp2_with fail
      go_ret
      exact RetCode.no HN.out (by decide) HK.out
    | true =>
      have HY : Hid (QrOk ⟨3, ⟨(x1, y1), (x2, y2)⟩, l⟩) := Lib.hid (HB.out.2 HR.out)
      clear HB
      go_enter Tryz.func16, Tryz.ntmps16
      go_wp2_with fail
      refine (HC _).out.mono ?_
      rintro e w1 ⟨rfl, hk1⟩
      have HK := Lib.hid ((Kept.alloc Nob w _).then hk1)
      clear hk1
      go_wp2_with fail
      go_ret
      exact RetCode.yes HY.out HK.out
  by_cases h4 : k = 4
  · subst h4
    clear h12 h3
    have HB := Lib.hid (qr4 (q := ⟨4, ⟨(x1, y1), (x2, y2)⟩, l⟩) rfl)
    have HC := fun (wx : World) (kx : Kept Nob w wx) => Lib.hid (ref_CheckRing wx _ l F (HP.out.nob kx) hl)
    go_enter Tryz.func16, Tryz.ntmps16
    go_wp2_with fail
    refine (HC _ (Kept.alloc _ _ _)).out.mono ?_
    rintro e w1 ⟨c, d, rfl, hc, hk1⟩
    have HCc := Lib.hid hc
    have HK := Lib.hid ((Kept.alloc Nob w _).then hk1)
    clear hc hk1
    go_wp2_with fail
    go_ret
    exact ⟨_, rfl, HCc.out.trans HB.out.symm, HK.out⟩
  · have h1 : k ≠ 1 := fun e => h12 (.inl e)
    have h2 : k ≠ 2 := fun e => h12 (.inr e)
    have HN : Hid (¬ QrOk ⟨k, ⟨(x1, y1), (x2, y2)⟩, l⟩) := Lib.hid (qr_no h1 h2 h3 h4)
    have b1 : (k == 1) = false := beq_eq_false_iff_ne.2 h1
    have b2 : (k == 2) = false := beq_eq_false_iff_ne.2 h2
    have b3 : (k == 3) = false := beq_eq_false_iff_ne.2 h3
    have b4 : (k == 4) = false := beq_eq_false_iff_ne.2 h4
    clear h12 h1 h2
    go_enter Tryz.func16, Tryz.ntmps16
    go_wp2_with fail
    go_ret
    exact RetCode.no HN.out (by decide) (Kept.alloc _ _ _)

/-- behind a call that answers whether p holds -/
def RetDec (w : World) (p : Prop) (e : Ending) (w' : World) : Prop := ∃ b, e = .returned (.bool b) ∧ (b = true ↔ p) ∧ Kept Nob w w'
theorem RetDec.yes {w w' : World} {p : Prop} (h : p) (hk : Kept Nob w w') : RetDec w p (.returned (.bool true)) w' := ⟨true, rfl, ⟨fun _ => h, fun _ => rfl⟩, hk⟩
theorem RetDec.no {w w' : World} {p : Prop} (h : ¬ p) (hk : Kept Nob w w') : RetDec w p (.returned (.bool false)) w' := ⟨false, rfl, ⟨fun e => (by cases e), fun e => absurd e h⟩, hk⟩
set_option maxRecDepth 100000 in
set_option maxHeartbeats 4000000 in
theorem ref_Points (w : World) (v u : Value) (l m : List Pt) (F G : Nat → Prop) (h : PtsAt w v l F) (h2 : PtsAt w u m G) (hl : l.length < 1000000000) (hm : m.length < 1000000000) :
    Calls Tryz.prog 34 #[v, u] w (RetDec w (l = m)) := by
  obtain ⟨a, cap, rfl⟩ := h.shape
  obtain ⟨a2, cap2, rfl⟩ := h2.shape
  have HP := Lib.hid h
  have HP2 := Lib.hid h2
  clear h h2
  by_cases hlen : l.length = m.length
  case neg =>
    have hb : ((l.length : Int) != (m.length : Int)) = true := by simp; omega
    have HN : Hid (¬ l = m) := Lib.hid (fun e => hlen (by rw [e]))
    go_enter Tryz.func34, Tryz.ntmps34
    go_wp2_with fail
    go_ret
    exact RetDec.no HN.out (Kept.refl _ _)
  case pos =>
    have hb : ((l.length : Int) != (m.length : Int)) = false := by simp; omega
    have HLn := Lib.hid hlen
    clear hlen
    go_enter Tryz.func34, Tryz.ntmps34
    go_wp2_with fail
    go_loopw [5] (fun i wr => ∃ k : Nat, k ≤ l.length ∧ i = .int .i64 k ∧ l.take k = m.take k ∧ Kept Nob w wr) (fun i _ => l.length - (intOf i).toNat)
    case atStart => exact ⟨0, Nat.zero_le _, rfl, by simp, Kept.refl _ _⟩
    case round =>
      obtain ⟨k, hk, rfl, heq, hw⟩ := hrel
      have HEq := Lib.hid heq
      have HW := Lib.hid hw
      clear heq hw
      by_cases hlt : k < l.length
      · have hlt2 : k < m.length := by have := HLn.out; omega
        obtain ⟨b, o, rfl, -, hb, -, c0, c1⟩ := (HP.out.nob HW.out).at (List.getElem?_eq_getElem hlt)
        obtain ⟨b2, o2, rfl, -, hb2, -, c2, c3⟩ := (HP2.out.nob HW.out).at (List.getElem?_eq_getElem hlt2)
        have HT : Hid (l.take (k + 1) = l.take k ++ [l[k]]) := Lib.hid (List.take_succ_eq_append_getElem hlt)
        have HT2 : Hid (m.take (k + 1) = m.take k ++ [m[k]]) := Lib.hid (List.take_succ_eq_append_getElem hlt2)
        have HNe : Hid (l[k] ≠ m[k] → ¬ l = m) := Lib.hid (fun h e => h (by subst e; rfl))
        generalize l[k] = p at *
        generalize m[k] = q at *
        obtain ⟨x1, y1⟩ := p
        obtain ⟨x2, y2⟩ := q
        simp only at c0 c1 c2 c3
        by_cases hx : x1 = x2
        case neg =>
          have HN : Hid (¬ l = m) := Lib.hid (HNe.out (by simp only [ne_eq, Prod.mk.injEq]; omega))
          go_wp2_with fail
          go_quiet (fail)
          go_wp2_with fail
          go_ret
          exact RetDec.no HN.out (HW.out.then (Kept.drewN _ _ _))
        case pos =>
          subst hx
          by_cases hy : y1 = y2
          case neg =>
            have HN : Hid (¬ l = m) := Lib.hid (HNe.out (by simp only [ne_eq, Prod.mk.injEq]; omega))
            go_wp2_with fail
            go_quiet (fail)
            go_wp2_with fail
            go_ret
            exact RetDec.no HN.out (HW.out.then (Kept.drewN _ _ _))
          case pos =>
            subst hy
            go_wp2_with fail
            go_quiet (fail)
            go_wp2_with fail
            go_roundw
            case rel => exact ⟨k + 1, by omega, by go_num, by rw [HT.out, HT2.out, HEq.out], HW.out.then (Kept.drewN _ _ _)⟩
            case measure => simp [intOf]; omega
      · obtain rfl : k = l.length := by omega
        have HY : Hid (l = m) := Lib.hid (by
          have := HEq.out
          rw [List.take_length, HLn.out, List.take_length] at this
          exact this)
        go_wp2_with fail
        go_ret
        exact RetDec.yes HY.out HW.out
set_option maxHeartbeats 2000000 in
theorem ref_Same (w : World) (k k2 : Int) (v u : Value) (l m : List Pt) (F G : Nat → Prop) (h : PtsAt w v l F) (h2 : PtsAt w u m G) (hl : l.length < 1000000000) (hm : m.length < 1000000000) :
    Calls Tryz.prog 13 #[.agg #[.int .i64 k, v], .agg #[.int .i64 k2, u]] w (RetDec w ((⟨k, l⟩ : Ob) = ⟨k2, m⟩)) := by
  obtain ⟨a, cap, rfl⟩ := h.shape
  obtain ⟨a2, cap2, rfl⟩ := h2.shape
  have HC := fun (wx : World) (kx : Kept Nob w wx) => Lib.hid (ref_Points wx _ _ l m F G (h.nob kx) (h2.nob kx) hl hm)
  clear h h2
  by_cases hk : k = k2
  case neg =>
    have hb : (k == k2) = false := beq_eq_false_iff_ne.2 hk
    have HN : Hid (¬ ((⟨k, l⟩ : Ob) = ⟨k2, m⟩)) := Lib.hid (fun e => hk (by injection e))
    go_enter Tryz.func13, Tryz.ntmps13
    go_wp2_with fail
    go_ret
    exact RetDec.no HN.out ((Kept.alloc Nob w _).then (Kept.alloc _ _ _))
  case pos =>
    subst hk
    have hb : (k == k) = true := beq_self_eq_true _
    go_enter Tryz.func13, Tryz.ntmps13
    go_wp2_with fail
    refine (HC _ ((Kept.alloc Nob w _).then (Kept.alloc _ _ _))).out.mono ?_
    rintro e w1 ⟨b, rfl, hbl, hk1⟩
    have HB := Lib.hid hbl
    have HK := Lib.hid (((Kept.alloc Nob w _).then (Kept.alloc _ _ _)).then hk1)
    clear hbl hk1
    go_wp2_with fail
    go_ret
    refine ⟨_, rfl, ?_, HK.out⟩
    rw [Ob.mk.injEq]
    simpa using HB.out
end Go.Proofs.YthjiobmglebmdaaGreatDoor
