/- The document's own rings: clash, CheckRing, Check, CheckQuery; Same. -/
import Derived.Test.YthjiobmglebmdaaGreatDoorPgRfGeo
import Derived.Test.YthjiobmglebmdaaGreatDoorPgScRel
import Derived.Deep.DeepCutAuto
import Derived.BigRegion
import Derived.BigQuiet
namespace Go.Proofs.YthjiobmglebmdaaGreatDoor
open Go.RowKit
open Go.Proofs.YthjiobmglebmdaaGreatDoor.Geo Go.Proofs.YthjiobmglebmdaaGreatDoor.Txt

theorem two1 (w : World) (A B : Obj) : ((w.alloc A).alloc B).drew.heap[w.heap.size]? = some A := by
  show ((w.alloc A).alloc B).heap[w.heap.size]? = some A
  rw [heap_alloc_old _ _ (by simp)]
  exact heap_alloc_new w A
theorem two2 (w : World) (A B : Obj) : ((w.alloc A).alloc B).drew.heap[w.heap.size + 1]? = some B := by
  have := heap_alloc_new (w.alloc A) B
  rw [show (w.alloc A).heap.size = w.heap.size + 1 from by simp] at this
  exact this
set_option maxRecDepth 100000 in
set_option maxHeartbeats 4000000 in
theorem ref_clash (w : World) (v : Value) (l : List Pt) (F : Nat → Prop) (h : PtsAt w v l F) (i k : Nat) (hik : i < k) (hk : k < l.length) (hl : l.length < 1000000000) (ho : ∀ p ∈ l, ok p = true) :
    Calls Tryz.prog 67 #[v, .int .i64 i, .int .i64 k] w fun e w' => e = .returned (.bool (clash l i k)) ∧ Kept Nob w w' := by
  obtain ⟨a, cap, rfl⟩ := h.shape
  have gd : ∀ j, j < l.length → l[j]? = some (l.getD j (0, 0)) := fun j hj => by rw [List.getD_eq_getElem?_getD, List.getElem?_eq_getElem hj]; rfl
  have okd : ∀ j, j < l.length → ok (l.getD j (0, 0)) = true := fun j hj => ho _ (List.mem_of_getElem? (gd j hj))
  obtain ⟨b, o, rfl, -, hb, -, c0, c1⟩ := h.at (gd i (by omega))
  obtain ⟨_, _, e', -, -, -, c2, c3⟩ := h.at (gd (i + 1) (by omega))
  simp only [Option.some.injEq, Addr.mk.injEq, and_true] at e'
  obtain ⟨rfl, rfl⟩ := e'
  obtain ⟨_, _, e', -, -, -, c4, c5⟩ := h.at (gd k hk)
  simp only [Option.some.injEq, Addr.mk.injEq, and_true] at e'
  obtain ⟨rfl, rfl⟩ := e'
  obtain ⟨_, _, e', -, -, -, c6, c7⟩ := h.at (gd _ (nx_lt hk))
  simp only [Option.some.injEq, Addr.mk.injEq, and_true] at e'
  obtain ⟨rfl, rfl⟩ := e'
  have O1 := Lib.hid (okd i (by omega))
  have O2 := Lib.hid (okd (i + 1) (by omega))
  have O3 := Lib.hid (okd k hk)
  have O4 := Lib.hid (okd _ (nx_lt hk))
  have tk := tmod_nx hk
  have hne : ((l.length : Int) == 0) = false := beq_eq_false_iff_ne.2 (by omega)
  have wi : wrap64 ((i : Int) + 1) = ((i + 1 : Nat) : Int) := IntWalk.wrap64_in _ (by omega)
  have wk : wrap64 ((k : Int) + 1) = (k : Int) + 1 := IntWalk.wrap64_in _ (by omega)
  have hi1 : ((i + 1 : Nat) : Int) < (l.length : Int) := Int.ofNat_lt.2 (by omega)
  have hi' : (i : Int) < (l.length : Int) := Int.ofNat_lt.2 (by omega)
  have hk' : (k : Int) < (l.length : Int) := Int.ofNat_lt.2 hk
  have hn' : ((nx l.length k : Nat) : Int) < (l.length : Int) := Int.ofNat_lt.2 (nx_lt hk)
  obtain ⟨r, hr⟩ : ∃ r, clash l i k = r := ⟨_, rfl⟩
  rw [hr]
  have HR := Lib.hid hr
  unfold clash at HR
  clear hr h gd okd ho
  generalize l.getD (nx l.length k) (0, 0) = P4 at *
  generalize l.getD (i + 1) (0, 0) = P2 at *
  generalize l.getD i (0, 0) = P1 at *
  generalize l.getD k (0, 0) = P3 at *
  generalize nx l.length k = nk at *
  obtain ⟨x1, y1⟩ := P1
  obtain ⟨x2, y2⟩ := P2
  obtain ⟨x3, y3⟩ := P3
  obtain ⟨x4, y4⟩ := P4
  simp only at c0 c1 c2 c3 c4 c5 c6 c7
  go_enter Tryz.func67, Tryz.ntmps67
  go_upto_region 2 with fail
  go_cut [8, 9] (fun s8 s9 wx => ∃ g8 g9, s8 = .pointer (some ⟨g8, 0, none⟩) ∧ s9 = .pointer (some ⟨g9, 0, none⟩) ∧ Kept Nob w wx ∧
    wx.heap[g8]? = some (.cells #[.int .i64 x1, .int .i64 y1] 42 (0, 0)) ∧ wx.heap[g9]? = some (.cells #[.int .i64 x2, .int .i64 y2] 42 (0, 0)))
  case first =>
    go_region
    all_goals (go_wp2_with fail; go_meet; exact ⟨_, _, rfl, rfl, (((Kept.alloc Nob w _).then (Kept.alloc Nob _ _)).then (Kept.drew Nob _)), by first | exact two1 _ _ _ | exact two2 _ _ _, by first | exact two1 _ _ _ | exact two2 _ _ _⟩)
  case rest =>
    obtain ⟨g8, g9, rfl, rfl, hkx, b8, b9⟩ := hcut
    have HKx := Lib.hid hkx
    have B8 := Lib.hid b8
    have B9 := Lib.hid b9
    have c4 := (hkx.cell (p := ⟨b, o + k * 2, none⟩) hb (fun f => f)).trans c4
    have c5 := (hkx.cell (p := ⟨b, o + k * 2 + 1, none⟩) hb (fun f => f)).trans c5
    have c6 := (hkx.cell (p := ⟨b, o + nk * 2, none⟩) hb (fun f => f)).trans c6
    have c7 := (hkx.cell (p := ⟨b, o + nk * 2 + 1, none⟩) hb (fun f => f)).trans c7
    have hb := Nat.lt_of_lt_of_le hb hkx.size
    clear hkx b8 b9 c0 c1 c2 c3
    go_upto_region 3 with fail
    go_cut [10, 11] (fun s10 s11 wx => ∃ g10 g11, s10 = .pointer (some ⟨g10, 0, none⟩) ∧ s11 = .pointer (some ⟨g11, 0, none⟩) ∧ Kept Nob wc wx ∧
      wx.heap[g10]? = some (.cells #[.int .i64 x3, .int .i64 y3] 42 (0, 0)) ∧ wx.heap[g11]? = some (.cells #[.int .i64 x4, .int .i64 y4] 42 (0, 0)))
    case first =>
      go_region
      all_goals (go_wp2_with fail; go_meet; exact ⟨_, _, rfl, rfl, (((Kept.alloc Nob wc _).then (Kept.alloc Nob _ _)).then (Kept.drew Nob _)), by first | exact two1 _ _ _ | exact two2 _ _ _, by first | exact two1 _ _ _ | exact two2 _ _ _⟩)
    case rest =>
      rename_i wd
      obtain ⟨g10, g11, rfl, rfl, hkx, b10, b11⟩ := hcut
      have B8 := Lib.hid ((hkx.block g8 (Array.getElem?_eq_some_iff.1 B8.out).1 (fun f => f)).trans B8.out)
      have B9 := Lib.hid ((hkx.block g9 (Array.getElem?_eq_some_iff.1 B9.out).1 (fun f => f)).trans B9.out)
      have HKx := Lib.hid (HKx.out.then hkx)
      clear hkx c4 c5 c6 c7
      have c8a := cell_at B8.out 0 _ rfl
      have c8b := cell_at B8.out 1 _ rfl
      have c9a := cell_at B9.out 0 _ rfl
      have c9b := cell_at B9.out 1 _ rfl
      have c10a := cell_at b10 0 _ rfl
      have c10b := cell_at b10 1 _ rfl
      have c11a := cell_at b11 0 _ rfl
      have c11b := cell_at b11 1 _ rfl
      clear b10 b11
      unfold clash4 at HR
      by_cases h1 : k = i + 1
      · have hb1 : ((k : Int) == ((i + 1 : Nat) : Int)) = true := by rw [h1]; exact beq_self_eq_true _
        have HR := Lib.hid (show over (x1, y1) (x2, y2) (x4, y4) = r by rw [← HR.out]; simp [h1])
        have HO := fun wx => Lib.hid (ref_over wx x1 y1 x2 y2 x4 y4 O1.out O2.out O4.out)
        have h1' : (k : Int) = (i : Int) + 1 := by omega
        clear h1
        go_wp2_with fail
        refine (HO _).out.mono ?_
        rintro e w9 ⟨rfl, hk9⟩
        have HK9 := Lib.hid (HKx.out.then hk9)
        clear hk9
        go_wp2_with fail
        go_ret
        exact ⟨ret_bool HR.out, HK9.out⟩
      · have hb1 : ((k : Int) == ((i + 1 : Nat) : Int)) = false := beq_eq_false_iff_ne.2 (by omega)
        have h1' : ¬ (k : Int) = (i : Int) + 1 := by omega
        have wn : wrap64 ((l.length : Int) - 1) = (l.length : Int) - 1 := IntWalk.wrap64_in _ (by omega)
        by_cases h2 : i = 0
        · by_cases h3 : k + 1 = l.length
          · have hb2 : ((i : Int) == 0) = true := by rw [h2]; rfl
            have hb3 : ((k : Int) == ((l.length : Int) - 1)) = true := beq_iff_eq.2 (by omega)
            have h1k : ¬ k = 1 := by omega
            have HR := Lib.hid (show over (x2, y2) (x1, y1) (x3, y3) = r by rw [← HR.out]; simp [h1k, h2, h3])
            have HO := fun wx => Lib.hid (ref_over wx x2 y2 x1 y1 x3 y3 O2.out O1.out O3.out)
            clear h1 h2 h3
            go_wp2_with fail
            refine (HO _).out.mono ?_
            rintro e w9 ⟨rfl, hk9⟩
            have HK9 := Lib.hid (HKx.out.then hk9)
            clear hk9
            go_wp2_with fail
            go_ret
            exact ⟨ret_bool HR.out, HK9.out⟩
          · have hb2 : ((i : Int) == 0) = true := by rw [h2]; rfl
            have hb3 : ((k : Int) == ((l.length : Int) - 1)) = false := beq_eq_false_iff_ne.2 (by omega)
            have HR := Lib.hid (show meet (x1, y1) (x2, y2) (x3, y3) (x4, y4) = r by rw [← HR.out]; simp [h1, h3])
            have HO := fun wx => Lib.hid (ref_Meet wx x1 y1 x2 y2 x3 y3 x4 y4 O1.out O2.out O3.out O4.out)
            clear h1 h2 h3
            go_wp2_with fail
            refine (HO _).out.mono ?_
            rintro e w9 ⟨rfl, hk9⟩
            have HK9 := Lib.hid (HKx.out.then hk9)
            clear hk9
            go_wp2_with fail
            go_ret
            exact ⟨ret_bool HR.out, HK9.out⟩
        · have hb2 : ((i : Int) == 0) = false := beq_eq_false_iff_ne.2 (by omega)
          have HR := Lib.hid (show meet (x1, y1) (x2, y2) (x3, y3) (x4, y4) = r by rw [← HR.out]; simp [h1, h2])
          have HO := fun wx => Lib.hid (ref_Meet wx x1 y1 x2 y2 x3 y3 x4 y4 O1.out O2.out O3.out O4.out)
          clear h1 h2
          go_wp2_with fail
          refine (HO _).out.mono ?_
          rintro e w9 ⟨rfl, hk9⟩
          have HK9 := Lib.hid (HKx.out.then hk9)
          clear hk9
          go_wp2_with fail
          go_ret
          exact ⟨ret_bool HR.out, HK9.out⟩

/-- behind the document's CheckRing -/
def RetRing (w : World) (l : List Pt) (e : Ending) (w' : World) : Prop := ∃ c d, e = .returned (.tuple #[.int .i64 c, .int .i64 d]) ∧ (c = 0 ↔ RingOk l) ∧ Kept Nob w w'
set_option maxRecDepth 100000 in
set_option maxHeartbeats 4000000 in
theorem ref_CheckRing (w : World) (v : Value) (l : List Pt) (F : Nat → Prop) (h : PtsAt w v l F) (hl : l.length < 1000000000) :
    Calls Tryz.prog 38 #[v] w (RetRing w l) := by
  obtain ⟨a, cap, rfl⟩ := h.shape
  have HP := Lib.hid h
  clear h
  by_cases h3 : l.length < 3
  · have HN : Hid (¬ RingOk l) := Lib.hid (fun h => by have := h.1; omega)
    have h3' : ((l.length : Int) < 3) := by omega
    clear h3
    go_enter Tryz.func38, Tryz.ntmps38
    go_wp2_with fail
    go_ret2
    exact ⟨_, _, rfl, ⟨fun h => by simp at h, fun h => absurd h HN.out⟩, Kept.refl _ _⟩
  by_cases h64 : 64 < l.length
  · have HN : Hid (¬ RingOk l) := Lib.hid (fun h => by have := h.2.1; omega)
    have h3' : ¬ ((l.length : Int) < 3) := by omega
    have h64' : ((64 : Int) < (l.length : Int)) := by omega
    clear h3 h64
    go_enter Tryz.func38, Tryz.ntmps38
    go_wp2_with fail
    go_ret2
    exact ⟨_, _, rfl, ⟨fun h => by simp at h, fun h => absurd h HN.out⟩, Kept.refl _ _⟩
  have H3 := Lib.hid h3
  have H64 := Lib.hid h64
  have h3' : ¬ ((l.length : Int) < 3) := by omega
  have h64' : ¬ ((64 : Int) < (l.length : Int)) := by omega
  clear h3 h64
  go_enter Tryz.func38, Tryz.ntmps38
  go_wp2_with fail
  clear h3' h64'
  go_loopw [5] (fun i wr => ∃ k : Nat, k ≤ l.length ∧ i = .int .i64 k ∧ (∀ p ∈ l.take k, ok p = true) ∧ Kept Nob w wr) (fun i _ => l.length - (intOf i).toNat)
  case atStart => exact ⟨0, Nat.zero_le _, rfl, (fun p hp => by simp at hp), Kept.refl _ _⟩
  case round =>
    obtain ⟨k, hk, rfl, hok, hw⟩ := hrel
    have HOk := Lib.hid hok
    have HW := Lib.hid hw
    clear hok hw
    by_cases hlt : k < l.length
    · obtain ⟨b, o, rfl, -, hb, -, c0, c1⟩ := (HP.out.nob HW.out).at (List.getElem?_eq_getElem hlt)
      have HT : Hid (l.take (k + 1) = l.take k ++ [l[k]]) := Lib.hid (List.take_succ_eq_append_getElem hlt)
      have HC := fun wx : World => Lib.hid (ref_Point wx l[k].1 l[k].2 (ok l[k]) rfl)
      have HM := Lib.hid (List.getElem_mem hlt)
      generalize l[k] = pk at *
      obtain ⟨x, y⟩ := pk
      simp only at c0 c1 HC
      obtain ⟨r, hr⟩ : ∃ r, ok (x, y) = r := ⟨_, rfl⟩
      rw [hr] at HC
      have HR := Lib.hid hr
      clear hr
      cases r with
      | false =>
        have HN : Hid (¬ RingOk l) := Lib.hid (fun h => by have := h.2.2.1 _ HM.out; rw [HR.out] at this; cases this)
        go_wp2_with fail
        refine (HC _).out.mono ?_
        rintro e w1 ⟨rfl, hk1⟩
        have HK := Lib.hid (HW.out.then hk1)
        clear hk1
        go_wp2_with fail
        go_ret2
        exact ⟨_, _, rfl, ⟨fun h => by simp at h, fun h => absurd h HN.out⟩, HK.out⟩
      | true =>
        go_wp2_with fail
        refine (HC _).out.mono ?_
        rintro e w1 ⟨rfl, hk1⟩
        have HK := Lib.hid (HW.out.then hk1)
        clear hk1
        go_wp2_with fail
        go_roundw
        case rel =>
          refine ⟨k + 1, by omega, by go_num, fun p hp => ?_, HK.out⟩
          rw [HT.out, List.mem_append, List.mem_singleton] at hp
          rcases hp with hp | rfl
          · exact HOk.out p hp
          · exact HR.out
        case measure => simp [intOf]; omega
    · obtain rfl : k = l.length := by omega
      have HAll : Hid (∀ p ∈ l, ok p = true) := Lib.hid (fun p hp => HOk.out p (by rw [List.take_length]; exact hp))
      have HCl := fun (wx : World) (kx : Kept Nob w wx) (i k : Nat) (hi : i < k) (hk : k < l.length) => Lib.hid (ref_clash wx _ l F (HP.out.nob kx) i k hi hk hl HAll.out)
      clear HOk
      go_wp2_with fail
      go_loopw [6] (fun i wr => ∃ k : Nat, k ≤ l.length ∧ i = .int .i64 k ∧ (∀ i j, i < k → i < j → j < l.length → l.getD i (0, 0) ≠ l.getD j (0, 0) ∧ clash l i j = false) ∧ Kept Nob w wr) (fun i _ => l.length - (intOf i).toNat)
      case atStart => exact ⟨0, Nat.zero_le _, rfl, (fun i j hi => by omega), HW.out⟩
      case round =>
        clear HW
        obtain ⟨i, hi, rfl, hsp, hw⟩ := hrel
        have HS := Lib.hid hsp
        have HW := Lib.hid hw
        clear hsp hw
        by_cases hlt : i < l.length
        · have wi : wrap64 ((i : Int) + 1) = ((i + 1 : Nat) : Int) := IntWalk.wrap64_in _ (by omega)
          go_wp2_with fail
          go_loopw [7] (fun j wr => ∃ k : Nat, i + 1 ≤ k ∧ k ≤ l.length ∧ j = .int .i64 k ∧ (∀ j, i < j → j < k → l.getD i (0, 0) ≠ l.getD j (0, 0) ∧ clash l i j = false) ∧ Kept Nob w wr) (fun i _ => l.length - (intOf i).toNat)
          case atStart => exact ⟨i + 1, Nat.le_refl _, by omega, rfl, (fun j hj => by omega), HW.out⟩
          case round =>
            clear HW
            obtain ⟨k, hk1, hk2, rfl, hsp, hw⟩ := hrel
            have HS2 := Lib.hid hsp
            have HW := Lib.hid hw
            clear hsp hw
            by_cases hlt2 : k < l.length
            · have HCk := fun (wx : World) (kx : Kept Nob wr wx) => HCl wx (HW.out.then kx) i k (by omega) hlt2
              have gd : ∀ j, j < l.length → l[j]? = some (l.getD j (0, 0)) := fun j hj => by rw [List.getD_eq_getElem?_getD, List.getElem?_eq_getElem hj]; rfl
              obtain ⟨b, o, rfl, -, hb, -, c0, c1⟩ := (HP.out.nob HW.out).at (gd i hlt)
              obtain ⟨_, _, e', -, -, -, c2, c3⟩ := (HP.out.nob HW.out).at (gd k hlt2)
              simp only [Option.some.injEq, Addr.mk.injEq, and_true] at e'
              obtain ⟨rfl, rfl⟩ := e'
              have hi' : (i : Int) < (l.length : Int) := Int.ofNat_lt.2 hlt
              have hk' : (k : Int) < (l.length : Int) := Int.ofNat_lt.2 hlt2
              have HGi : Hid (∀ j, i < j → j < k + 1 → (j < k ∨ j = k)) := Lib.hid (fun j _ _ => by omega)
              have HA : Hid (l.getD i (0, 0) = l.getD k (0, 0) ∨ clash l i k = true → ¬ RingOk l) := Lib.hid (fun h hr => by
                have := ((ring_two l).1 hr).2.2.2 i k (by omega) hlt2
                rcases h with h | h
                · exact this.1 h
                · rw [this.2] at h; cases h)
              have HB : Hid (l.getD i (0, 0) ≠ l.getD k (0, 0) → clash l i k = false → ∀ j, i < j → j < k + 1 → l.getD i (0, 0) ≠ l.getD j (0, 0) ∧ clash l i j = false) := Lib.hid (fun h1 h2 j hj hj2 => by
                rcases HGi.out j hj hj2 with h | h
                · exact HS2.out j hj h
                · rw [h]; exact ⟨h1, h2⟩)
              clear gd HGi
              generalize l.getD i (0, 0) = P1 at *
              generalize l.getD k (0, 0) = P2 at *
              generalize clash l i k = cl at *
              obtain ⟨x1, y1⟩ := P1
              obtain ⟨x2, y2⟩ := P2
              simp only at c0 c1 c2 c3
              by_cases hx : x1 = x2
              case neg =>
                cases cl with
                | true =>
                  have HN : Hid (¬ RingOk l) := Lib.hid (HA.out (.inr rfl))
                  go_wp2_with fail
                  go_region_held3 (fun w' => w'.cell? ⟨b, o + i * 2, none⟩ = some (.int .i64 x1) ∧ w'.cell? ⟨b, o + i * 2 + 1, none⟩ = some (.int .i64 y1) ∧ w'.cell? ⟨b, o + k * 2, none⟩ = some (.int .i64 x2) ∧ w'.cell? ⟨b, o + k * 2 + 1, none⟩ = some (.int .i64 y2)) ((go_keep; done))
                    (((go_at_call 67; (with_reducible refine (HCk _ (Kept.drew Nob wr)).out.mono ?_); rintro e w3 ⟨rfl, hk3⟩; have hD := (Kept.drew Nob wr).then hk3; have HK3 := Lib.hid (HW.out.then hD); have q0 := (hD.cell (p := ⟨b, o + i * 2, none⟩) hb (fun f => f)).trans c0; have q1 := (hD.cell (p := ⟨b, o + i * 2 + 1, none⟩) hb (fun f => f)).trans c1; have q2 := (hD.cell (p := ⟨b, o + k * 2, none⟩) hb (fun f => f)).trans c2; have q3 := (hD.cell (p := ⟨b, o + k * 2 + 1, none⟩) hb (fun f => f)).trans c3; clear hk3 hD)))
                  go_wp2_with fail
                  go_ret2
                  exact ⟨_, _, rfl, ⟨fun h => by simp at h, fun h => absurd h HN.out⟩, HK3.out⟩
                | false =>
                  have HB2 := Lib.hid (HB.out (by simp only [ne_eq, Prod.mk.injEq]; omega) rfl)
                  go_wp2_with fail
                  go_region_held3 (fun w' => w'.cell? ⟨b, o + i * 2, none⟩ = some (.int .i64 x1) ∧ w'.cell? ⟨b, o + i * 2 + 1, none⟩ = some (.int .i64 y1) ∧ w'.cell? ⟨b, o + k * 2, none⟩ = some (.int .i64 x2) ∧ w'.cell? ⟨b, o + k * 2 + 1, none⟩ = some (.int .i64 y2)) ((go_keep; done))
                    (((go_at_call 67; (with_reducible refine (HCk _ (Kept.drew Nob wr)).out.mono ?_); rintro e w3 ⟨rfl, hk3⟩; have hD := (Kept.drew Nob wr).then hk3; have HK3 := Lib.hid (HW.out.then hD); have q0 := (hD.cell (p := ⟨b, o + i * 2, none⟩) hb (fun f => f)).trans c0; have q1 := (hD.cell (p := ⟨b, o + i * 2 + 1, none⟩) hb (fun f => f)).trans c1; have q2 := (hD.cell (p := ⟨b, o + k * 2, none⟩) hb (fun f => f)).trans c2; have q3 := (hD.cell (p := ⟨b, o + k * 2 + 1, none⟩) hb (fun f => f)).trans c3; clear hk3 hD)))
                  go_wp2_with fail
                  go_roundw
                  case rel => exact ⟨k + 1, by omega, by omega, by go_num, HB2.out, HK3.out⟩
                  case measure => simp [intOf]; omega
              case pos =>
                subst hx
                by_cases hy : y1 = y2
                case pos =>
                  subst hy
                  have HN : Hid (¬ RingOk l) := Lib.hid (HA.out (.inl rfl))
                  go_wp2_with fail
                  go_quiet (fail)
                  go_wp2_with fail
                  go_ret2
                  exact ⟨_, _, rfl, ⟨fun h => by simp at h, fun h => absurd h HN.out⟩, HW.out.then (Kept.drewN _ _ _)⟩
                case neg =>
                  cases cl with
                  | true =>
                    have HN : Hid (¬ RingOk l) := Lib.hid (HA.out (.inr rfl))
                    go_wp2_with fail
                    go_region_held3 (fun w' => w'.cell? ⟨b, o + i * 2, none⟩ = some (.int .i64 x1) ∧ w'.cell? ⟨b, o + i * 2 + 1, none⟩ = some (.int .i64 y1) ∧ w'.cell? ⟨b, o + k * 2, none⟩ = some (.int .i64 x1) ∧ w'.cell? ⟨b, o + k * 2 + 1, none⟩ = some (.int .i64 y2)) ((go_keep; done))
                      (((go_at_call 67; (with_reducible refine (HCk _ (Kept.drew Nob wr)).out.mono ?_); rintro e w3 ⟨rfl, hk3⟩; have hD := (Kept.drew Nob wr).then hk3; have HK3 := Lib.hid (HW.out.then hD); have q0 := (hD.cell (p := ⟨b, o + i * 2, none⟩) hb (fun f => f)).trans c0; have q1 := (hD.cell (p := ⟨b, o + i * 2 + 1, none⟩) hb (fun f => f)).trans c1; have q2 := (hD.cell (p := ⟨b, o + k * 2, none⟩) hb (fun f => f)).trans c2; have q3 := (hD.cell (p := ⟨b, o + k * 2 + 1, none⟩) hb (fun f => f)).trans c3; clear hk3 hD)))
                    go_wp2_with fail
                    go_ret2
                    exact ⟨_, _, rfl, ⟨fun h => by simp at h, fun h => absurd h HN.out⟩, HK3.out⟩
                  | false =>
                    have HB2 := Lib.hid (HB.out (by simp only [ne_eq, Prod.mk.injEq]; omega) rfl)
                    go_wp2_with fail
                    go_region_held3 (fun w' => w'.cell? ⟨b, o + i * 2, none⟩ = some (.int .i64 x1) ∧ w'.cell? ⟨b, o + i * 2 + 1, none⟩ = some (.int .i64 y1) ∧ w'.cell? ⟨b, o + k * 2, none⟩ = some (.int .i64 x1) ∧ w'.cell? ⟨b, o + k * 2 + 1, none⟩ = some (.int .i64 y2)) ((go_keep; done))
                      (((go_at_call 67; (with_reducible refine (HCk _ (Kept.drew Nob wr)).out.mono ?_); rintro e w3 ⟨rfl, hk3⟩; have hD := (Kept.drew Nob wr).then hk3; have HK3 := Lib.hid (HW.out.then hD); have q0 := (hD.cell (p := ⟨b, o + i * 2, none⟩) hb (fun f => f)).trans c0; have q1 := (hD.cell (p := ⟨b, o + i * 2 + 1, none⟩) hb (fun f => f)).trans c1; have q2 := (hD.cell (p := ⟨b, o + k * 2, none⟩) hb (fun f => f)).trans c2; have q3 := (hD.cell (p := ⟨b, o + k * 2 + 1, none⟩) hb (fun f => f)).trans c3; clear hk3 hD)))
                    go_wp2_with fail
                    go_roundw
                    case rel => exact ⟨k + 1, by omega, by omega, by go_num, HB2.out, HK3.out⟩
                    case measure => simp [intOf]; omega
            · obtain rfl : k = l.length := by omega
              go_wp2_with fail
              go_roundw
              case rel =>
                refine ⟨i + 1, by omega, by go_num, fun i' j hi' hij hj => ?_, HW.out⟩
                by_cases hii : i' = i
                · rw [hii] at hij ⊢; exact HS2.out j hij hj
                · exact HS.out i' j (by omega) hij hj
              case measure => simp [intOf]; omega
        · obtain rfl : i = l.length := by omega
          have HY : Hid (RingOk l) := Lib.hid ((ring_two l).2 ⟨by have := H3.out; omega, by have := H64.out; omega, HAll.out, fun i k hi hk => HS.out i k (by omega) hi hk⟩)
          go_wp2_with fail
          go_ret2
          exact ⟨_, _, rfl, ⟨fun _ => HY.out, fun _ => rfl⟩, HW.out⟩
end Go.Proofs.YthjiobmglebmdaaGreatDoor
