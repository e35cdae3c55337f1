/- script.Object, script.Query: what is written. -/
import Derived.Test.YthjiobmglebmdaaGreatDoorPgScWrite
namespace Go.Proofs.YthjiobmglebmdaaGreatDoor
open Go.RowKit
open Go.Proofs.YthjiobmglebmdaaGreatDoor.Geo Go.Proofs.YthjiobmglebmdaaGreatDoor.Txt

theorem obText_plain {k : Int} {l : List Pt} (h : ObOk ⟨k, l⟩) (h2 : k ≠ 2) : obText ⟨k, l⟩ = Lib.join (obWord k :: l.map ptTxt) [32] := by
  unfold obText obWords
  rw [if_pos h]
  simp only [h2, if_false]
theorem obText_two {p : Pt} (h : ObOk ⟨2, [p]⟩) : obText ⟨2, [p]⟩ = wInterval ++ 32 :: (Lib.itoa p.1 ++ 32 :: Lib.itoa p.2) := by
  unfold obText obWords
  rw [if_pos h]
  simp [Lib.join_cons, Lib.joinTail]
/-- the words of a query -/
def wMeets : List UInt8 := [109, 101, 101, 116, 115]
def wInside : List UInt8 := [105, 110, 115, 105, 100, 101]
def wHas : List UInt8 := [104, 97, 115]
def wCross : List UInt8 := [99, 114, 111, 115, 115]
def qrWords (q : Qr) : List (List UInt8) :=
  if q.kind = 1 then wMeets :: [q.box.lo, q.box.hi].map ptTxt else if q.kind = 2 then wInside :: [q.box.lo, q.box.hi].map ptTxt else if q.kind = 3 then wHas :: [q.box.lo].map ptTxt else wCross :: q.ring.map ptTxt
open Classical in
/-- the text of a query; empty where it may not be -/
noncomputable def qrText (q : Qr) : List UInt8 := if QrOk q then Lib.join (qrWords q) [32] else []

set_option maxRecDepth 100000 in
set_option maxHeartbeats 4000000 in
theorem script_Object (w : World) (k : Int) (v : Value) (l : List Pt) (F : Nat → Prop) (h : PtsAt w v l F) (hl : l.length < 1000000000) (hE : Env w) :
    Calls Tryz.prog 12 #[.agg #[.int .i64 k, v]] w fun e w' => e = .returned (strV (obText ⟨k, l⟩)) ∧ Kept Nob w w' := by
  obtain ⟨a, cap, rfl⟩ := h.shape
  have HP := Lib.hid h
  have HE := Lib.hid hE
  have HC := fun (wx : World) (kx : Kept Nob w wx) => Lib.hid (rel_Check wx k _ l F (h.nob kx) hl)
  clear h hE
  by_cases hok : ObOk ⟨k, l⟩
  case neg =>
    have HN : Hid (strV (obText ⟨k, l⟩) = .string ⟨#[]⟩) := Lib.hid (by rw [obText_no hok]; rfl)
    have HO := Lib.hid hok
    clear hok
    generalize ObOk ⟨k, l⟩ = p at *
    go_enter Tryz.func12, Tryz.ntmps12
    go_wp2_with fail
    refine (HC _ (Kept.alloc Nob _ _)).out.mono ?_
    rintro e w1 ⟨u, rfl, hu, hk⟩
    have HK := Lib.hid ((Kept.alloc Nob _ _).then hk)
    obtain ⟨t, u', rfl⟩ : ∃ t u', u = .iface t u' := by
      rcases hu with ⟨hp, _⟩ | ⟨_, t, u', h⟩
      · exact absurd hp HO.out
      · exact ⟨t, u', h⟩
    clear hu hk
    go_wp2_with fail
    go_ret
    exact ⟨by rw [HN.out]; rfl, HK.out⟩
  case pos =>
    have HO := Lib.hid hok
    have hl64 := hok.len.2
    have hall := hok.pts_ok
    have HL := Lib.hid hl64
    have HA := Lib.hid hall
    clear hl64 hall
    have HW := fun (wx : World) (kx : Kept Nob w wx) (word : List UInt8) (hw : word.length ≤ 43) => Lib.hid (script_words wx word _ l F (HP.out.nob kx) hw HL.out HA.out (HE.out.kept kx))
    have cases4 : k = 1 ∨ k = 2 ∨ k = 3 ∨ k = 4 := by
      rcases hok with h | h | h | h
      · exact .inl h.1
      · exact .inr (.inl h.1)
      · exact .inr (.inr (.inl h.1))
      · exact .inr (.inr (.inr h.1))
    rcases cases4 with rfl | rfl | rfl | rfl
    · have HT : Hid (obText ⟨1, l⟩ = _) := Lib.hid (obText_plain hok (by omega))
      have HW1 := fun wx kx => HW wx kx wPoint (by decide)
      unfold strV wPoint at HW1
      clear hok HW
      go_enter Tryz.func12, Tryz.ntmps12
      go_wp2_with fail
      refine (HC _ (Kept.alloc Nob _ _)).out.mono ?_
      rintro e w1 ⟨u, rfl, hu, hk⟩
      obtain rfl : u = .nilIface := by
        rcases hu with ⟨_, h⟩ | ⟨h, _⟩
        · exact h
        · exact absurd HO.out h
      have b1 := new1 hk
      have c0 := cell_at b1 0 _ rfl
      have c1 := cell_at b1 1 _ rfl
      have HK := Lib.hid ((Kept.alloc Nob _ _).then hk)
      clear hu hk b1
      go_wp2_with fail
      refine (HW1 _ HK.out).out.mono ?_
      rintro e w2 ⟨rfl, hk2⟩
      have HK2 := Lib.hid (HK.out.then hk2)
      clear hk2
      go_wp2_with fail
      go_ret
      exact ⟨by rw [HT.out]; rfl, HK2.out⟩
    · obtain ⟨p, rfl, hp, hxy⟩ := (ob2 l).1 hok
      obtain ⟨x, y⟩ := p
      have HT := Lib.hid (obText_two hok)
      obtain ⟨b, o, rfl, -, hb, -, c0, c1⟩ := HP.out.at (i := 0) (p := (x, y)) rfl
      simp only [Nat.zero_mul, Nat.add_zero] at c0 c1
      have r := ok_range hp
      simp only at r
      have HX := fun (wx : World) (kx : Kept Nob w wx) => Lib.hid (str_itoa wx x r.1.1 r.1.2 (HE.out.kept kx))
      have HY := fun (wx : World) (kx : Kept Nob w wx) => Lib.hid (str_itoa wx y r.2.1 r.2.2 (HE.out.kept kx))
      have HT2 : Hid (strV (obText ⟨2, [(x, y)]⟩) = .string (((⟨#[105, 110, 116, 101, 114, 118, 97, 108, 32]⟩ ++ ⟨(Lib.itoa x).toArray⟩) ++ ⟨#[32]⟩) ++ ⟨(Lib.itoa y).toArray⟩)) := Lib.hid (by
        rw [HT.out]
        have e1 := strV_append [105, 110, 116, 101, 114, 118, 97, 108, 32] (Lib.itoa x)
        have e2 := strV_append ([105, 110, 116, 101, 114, 118, 97, 108, 32] ++ Lib.itoa x) [32]
        have e3 := strV_append ([105, 110, 116, 101, 114, 118, 97, 108, 32] ++ Lib.itoa x ++ [32]) (Lib.itoa y)
        rw [show (⟨#[105, 110, 116, 101, 114, 118, 97, 108, 32]⟩ : ByteArray) = ⟨[105, 110, 116, 101, 114, 118, 97, 108, 32].toArray⟩ from rfl, show (⟨#[32]⟩ : ByteArray) = ⟨[32].toArray⟩ from rfl, e1, e2, e3]
        simp [strV, wInterval])
      unfold strV at HX HY
      have sx : (⟨(Lib.itoa x).toArray⟩ : ByteArray).size ≤ 21 := by show (Lib.itoa x).toArray.size ≤ 21; simpa using Lib.itoa_length_le x r.1.1 r.1.2
      have sy : (⟨(Lib.itoa y).toArray⟩ : ByteArray).size ≤ 21 := by show (Lib.itoa y).toArray.size ≤ 21; simpa using Lib.itoa_length_le y r.2.1 r.2.2
      clear r hok HW HT hp hxy HL HA HE HP
      generalize (⟨(Lib.itoa x).toArray⟩ : ByteArray) = tx at *
      generalize (⟨(Lib.itoa y).toArray⟩ : ByteArray) = ty at *
      generalize strV (obText ⟨2, [(x, y)]⟩) = res at *
      have C0 := fun (wx : World) (kx : Kept Nob w wx) => Lib.hid ((kx.cell (p := ⟨b, o, none⟩) hb (fun f => f)).trans c0)
      have C1 := fun (wx : World) (kx : Kept Nob w wx) => Lib.hid ((kx.cell (p := ⟨b, o + 1, none⟩) hb (fun f => f)).trans c1)
      clear c0 c1
      go_enter Tryz.func12, Tryz.ntmps12
      go_wp2_with fail
      refine (HC _ (Kept.alloc Nob _ _)).out.mono ?_
      rintro e w1 ⟨u, rfl, hu, hk⟩
      obtain rfl : u = .nilIface := by
        rcases hu with ⟨_, h⟩ | ⟨h, _⟩
        · exact h
        · exact absurd HO.out h
      have b1 := new1 hk
      have c0 := cell_at b1 0 _ rfl
      have c1 := cell_at b1 1 _ rfl
      have HK := Lib.hid ((Kept.alloc Nob _ _).then hk)
      clear hu hk b1
      have d0 := (C0 _ HK.out).out
      have d1 := (C1 _ HK.out).out
      go_wp2_with fail
      refine wp_region_held_drew (S := (fun w' => w'.cell? ⟨w.heap.size, 1, none⟩ = some (.slice (some ⟨b, o, none⟩) 1 cap) ∧ w'.cell? ⟨b, o, none⟩ = some (.int .i64 x) ∧ w'.cell? ⟨b, o + 1, none⟩ = some (.int .i64 y))) (by kernel_rfl) ?_ (fun hHeld => ?_)
      · exact ⟨c1, d0, d1⟩
      refine take_to (i := 0) (oi := _) (v := ?_) (some 15) rfl (by kernel_rfl) (by kernel_rfl) (by kernel_rfl) (by kernel_rfl) (fun _ _ _ h => h) (Or.inl ⟨by kernel_rfl, ?_⟩) (by assumption) ?_
      case refine_2 => (intro w hSw; (try dsimp only at hSw); go_simp; (try rw [if_neg (by omega)]); try with_reducible rfl)
      try simp only [Act.put, List.setIfInBounds_toArray, List.set_cons_zero, List.set_cons_succ]
      refine take_to (i := 1) (oi := _) (v := ?_) (some 16) rfl (by kernel_rfl) (by kernel_rfl) (by kernel_rfl) (by kernel_rfl) (fun _ _ _ h => h) (Or.inl ⟨by kernel_rfl, ?_⟩) (by assumption) ?_
      case refine_2 => (intro w hSw; (try dsimp only at hSw); (obtain ⟨cc0, cc1, cc2⟩ := hSw); go_simp; (try rw [if_neg (by omega)]); try with_reducible rfl)
      try simp only [Act.put, List.setIfInBounds_toArray, List.set_cons_zero, List.set_cons_succ]
      refine take_to (i := 2) (oi := _) (v := ?_) (some 17) rfl (by kernel_rfl) (by kernel_rfl) (by kernel_rfl) (by kernel_rfl) (fun _ _ _ h => h) (Or.inl ⟨by kernel_rfl, ?_⟩) (by assumption) ?_
      case refine_2 => (intro w hSw; (try dsimp only at hSw); go_simp; (try rw [if_neg (by omega)]); try with_reducible rfl)
      try simp only [Act.put, List.setIfInBounds_toArray, List.set_cons_zero, List.set_cons_succ]
      refine take_to (i := 3) (oi := _) (v := ?_) (some 18) rfl (by kernel_rfl) (by kernel_rfl) (by kernel_rfl) (by kernel_rfl) (fun _ _ _ h => h) (Or.inl ⟨by kernel_rfl, ?_⟩) (by assumption) ?_
      case refine_2 => (intro w hSw; (try dsimp only at hSw); go_simp; (try rw [if_neg (by omega)]); try with_reducible rfl)
      try simp only [Act.put, List.setIfInBounds_toArray, List.set_cons_zero, List.set_cons_succ]
      refine take_to (i := 4) (oi := _) (v := ?_) (some 19) rfl (by kernel_rfl) (by kernel_rfl) (by kernel_rfl) (by kernel_rfl) (fun _ _ _ h => h) (Or.inl ⟨by kernel_rfl, ?_⟩) (by assumption) ?_
      case refine_2 => (intro w hSw; (try dsimp only at hSw); (obtain ⟨cc0, cc1, cc2⟩ := hSw); go_simp; (try rw [if_neg (by omega)]); try with_reducible rfl)
      try simp only [Act.put, List.setIfInBounds_toArray, List.set_cons_zero, List.set_cons_succ]
      refine take_to (i := 8) (oi := _) (v := ?_) (some 23) rfl (by kernel_rfl) (by kernel_rfl) (by kernel_rfl) (by kernel_rfl) (fun _ _ _ h => h) (Or.inl ⟨by kernel_rfl, ?_⟩) (by assumption) ?_
      case refine_2 => (intro w hSw; (try dsimp only at hSw); go_simp; (try rw [if_neg (by omega)]); try with_reducible rfl)
      try simp only [Act.put, List.setIfInBounds_toArray, List.set_cons_zero, List.set_cons_succ]
      refine take_to (i := 9) (oi := _) (v := ?_) (some 24) rfl (by kernel_rfl) (by kernel_rfl) (by kernel_rfl) (by kernel_rfl) (fun _ _ _ h => h) (Or.inl ⟨by kernel_rfl, ?_⟩) (by assumption) ?_
      case refine_2 => (intro w hSw; (try dsimp only at hSw); (obtain ⟨cc0, cc1, cc2⟩ := hSw); go_simp; (try rw [if_neg (by omega)]); try with_reducible rfl)
      try simp only [Act.put, List.setIfInBounds_toArray, List.set_cons_zero, List.set_cons_succ]
      refine take_to (i := 10) (oi := _) (v := ?_) (some 25) rfl (by kernel_rfl) (by kernel_rfl) (by kernel_rfl) (by kernel_rfl) (fun _ _ _ h => h) (Or.inl ⟨by kernel_rfl, ?_⟩) (by assumption) ?_
      case refine_2 => (intro w hSw; (try dsimp only at hSw); go_simp; (try rw [if_neg (by omega)]); try with_reducible rfl)
      try simp only [Act.put, List.setIfInBounds_toArray, List.set_cons_zero, List.set_cons_succ]
      refine take_to (i := 11) (oi := _) (v := ?_) (some 26) rfl (by kernel_rfl) (by kernel_rfl) (by kernel_rfl) (by kernel_rfl) (fun _ _ _ h => h) (Or.inl ⟨by kernel_rfl, ?_⟩) (by assumption) ?_
      case refine_2 => (intro w hSw; (try dsimp only at hSw); go_simp; (try rw [if_neg (by omega)]); try with_reducible rfl)
      try simp only [Act.put, List.setIfInBounds_toArray, List.set_cons_zero, List.set_cons_succ]
      refine take_to (i := 12) (oi := _) (v := ?_) (some 27) rfl (by kernel_rfl) (by kernel_rfl) (by kernel_rfl) (by kernel_rfl) (fun _ _ _ h => h) (Or.inl ⟨by kernel_rfl, ?_⟩) (by assumption) ?_
      case refine_2 => (intro w hSw; (try dsimp only at hSw); (obtain ⟨cc0, cc1, cc2⟩ := hSw); go_simp; (try rw [if_neg (by omega)]); try with_reducible rfl)
      try simp only [Act.put, List.setIfInBounds_toArray, List.set_cons_zero, List.set_cons_succ]
      refine wpAnyH_ready (rs := [5]) (by kernel_rfl) (by simp) ?_
      refine AllReadyH.cons (o := _) rfl (fun K hK => ?_) AllReadyH.nil
      go_simp
      go_at_call 27
      refine (HX _ (HK.out.then (Kept.drew Nob _))).out.mono ?_
      rintro e w2 ⟨rfl, hk2⟩
      have HK2 := Lib.hid ((HK.out.then (Kept.drew Nob _)).then hk2)
      try go_wp2_with fail
      refine hK.out _ _ (⟨(hk2.cell (p := ⟨w.heap.size, 1, none⟩) (cell_lt hHeld.1) (fun f => f)).trans hHeld.1, (hk2.cell (p := ⟨b, o, none⟩) (cell_lt hHeld.2.1) (fun f => f)).trans hHeld.2.1, (hk2.cell (p := ⟨b, o + 1, none⟩) (cell_lt hHeld.2.2) (fun f => f)).trans hHeld.2.2⟩) (fun hHeld => ?_)
      clear hK K
      try simp only [Act.put, List.setIfInBounds_toArray, List.set_cons_zero, List.set_cons_succ]
      refine take_to (i := 6) (oi := _) (v := ?_) (some 21) rfl (by kernel_rfl) (by kernel_rfl) (by kernel_rfl) (by kernel_rfl) (fun _ _ _ h => h) (Or.inl ⟨by kernel_rfl, ?_⟩) (by assumption) ?_
      case refine_2 => (intro w hSw; (try dsimp only at hSw); go_simp; (try rw [if_neg (by omega)]); try with_reducible rfl)
      try simp only [Act.put, List.setIfInBounds_toArray, List.set_cons_zero, List.set_cons_succ]
      refine take_to (i := 7) (oi := _) (v := ?_) (some 22) rfl (by kernel_rfl) (by kernel_rfl) (by kernel_rfl) (by kernel_rfl) (fun _ _ _ h => h) (Or.inl ⟨by kernel_rfl, ?_⟩) (by assumption) ?_
      case refine_2 => (intro w hSw; (try dsimp only at hSw); go_simp; (try rw [if_neg (by omega)]); try with_reducible rfl)
      try simp only [Act.put, List.setIfInBounds_toArray, List.set_cons_zero, List.set_cons_succ]
      refine wpAnyH_ready (rs := [13]) (by kernel_rfl) (by simp) ?_
      refine AllReadyH.cons (o := _) rfl (fun K hK => ?_) AllReadyH.nil
      go_simp
      go_at_call 27
      refine (HY _ HK2.out).out.mono ?_
      rintro e w3 ⟨rfl, hk3⟩
      have HK3 := Lib.hid (HK2.out.then hk3)
      try go_wp2_with fail
      refine hK.out _ _ (⟨(hk3.cell (p := ⟨w.heap.size, 1, none⟩) (cell_lt hHeld.1) (fun f => f)).trans hHeld.1, (hk3.cell (p := ⟨b, o, none⟩) (cell_lt hHeld.2.1) (fun f => f)).trans hHeld.2.1, (hk3.cell (p := ⟨b, o + 1, none⟩) (cell_lt hHeld.2.2) (fun f => f)).trans hHeld.2.2⟩) (fun hHeld => ?_)
      clear hK K
      try simp only [Act.put, List.setIfInBounds_toArray, List.set_cons_zero, List.set_cons_succ]
      refine take_to (i := 14) (oi := _) (v := ?_) (some 29) rfl (by kernel_rfl) (by kernel_rfl) (by kernel_rfl) (by kernel_rfl) (fun _ _ _ h => h) (Or.inl ⟨by kernel_rfl, ?_⟩) (by assumption) ?_
      case refine_2 => (intro w hSw; (try dsimp only at hSw); go_simp; (try rw [if_neg (by omega)]); try with_reducible rfl)
      try simp only [Act.put, List.setIfInBounds_toArray, List.set_cons_zero, List.set_cons_succ]
      refine take_to (i := 15) (oi := _) (v := ?_) (some 2) rfl (by kernel_rfl) (by kernel_rfl) (by kernel_rfl) (by kernel_rfl) (fun _ _ _ h => h) (Or.inl ⟨by kernel_rfl, ?_⟩) (by assumption) ?_
      case refine_2 => (intro w hSw; (try dsimp only at hSw); go_simp; (try rw [if_neg (by omega)]); try with_reducible rfl)
      try simp only [Act.put, List.setIfInBounds_toArray, List.set_cons_zero, List.set_cons_succ]
      refine wpAnyH_done (by kernel_rfl) ?_ _
      go_wp2_with fail
      go_ret
      exact ⟨by rw [HT2.out]; rfl, HK3.out⟩
    · have HT : Hid (obText ⟨3, l⟩ = _) := Lib.hid (obText_plain hok (by omega))
      have HW1 := fun wx kx => HW wx kx wBox (by decide)
      unfold strV wBox at HW1
      clear hok HW
      go_enter Tryz.func12, Tryz.ntmps12
      go_wp2_with fail
      refine (HC _ (Kept.alloc Nob _ _)).out.mono ?_
      rintro e w1 ⟨u, rfl, hu, hk⟩
      obtain rfl : u = .nilIface := by
        rcases hu with ⟨_, h⟩ | ⟨h, _⟩
        · exact h
        · exact absurd HO.out h
      have b1 := new1 hk
      have c0 := cell_at b1 0 _ rfl
      have c1 := cell_at b1 1 _ rfl
      have HK := Lib.hid ((Kept.alloc Nob _ _).then hk)
      clear hu hk b1
      go_wp2_with fail
      refine (HW1 _ HK.out).out.mono ?_
      rintro e w2 ⟨rfl, hk2⟩
      have HK2 := Lib.hid (HK.out.then hk2)
      clear hk2
      go_wp2_with fail
      go_ret
      exact ⟨by rw [HT.out]; rfl, HK2.out⟩
    · have HT : Hid (obText ⟨4, l⟩ = _) := Lib.hid (obText_plain hok (by omega))
      have HW1 := fun wx kx => HW wx kx wPoly (by decide)
      unfold strV wPoly at HW1
      clear hok HW
      go_enter Tryz.func12, Tryz.ntmps12
      go_wp2_with fail
      refine (HC _ (Kept.alloc Nob _ _)).out.mono ?_
      rintro e w1 ⟨u, rfl, hu, hk⟩
      obtain rfl : u = .nilIface := by
        rcases hu with ⟨_, h⟩ | ⟨h, _⟩
        · exact h
        · exact absurd HO.out h
      have b1 := new1 hk
      have c0 := cell_at b1 0 _ rfl
      have c1 := cell_at b1 1 _ rfl
      have HK := Lib.hid ((Kept.alloc Nob _ _).then hk)
      clear hu hk b1
      go_wp2_with fail
      refine (HW1 _ HK.out).out.mono ?_
      rintro e w2 ⟨rfl, hk2⟩
      have HK2 := Lib.hid (HK.out.then hk2)
      clear hk2
      go_wp2_with fail
      go_ret
      exact ⟨by rw [HT.out]; rfl, HK2.out⟩
theorem qrText_is {q : Qr} (h : QrOk q) : qrText q = Lib.join (qrWords q) [32] := by
  unfold qrText
  rw [if_pos h]
theorem qrText_no {q : Qr} (h : ¬ QrOk q) : qrText q = [] := by
  unfold qrText
  rw [if_neg h]
theorem QrOk.four {q : Qr} (h : QrOk q) : q.kind = 1 ∨ q.kind = 2 ∨ q.kind = 3 ∨ q.kind = 4 := by
  rcases h with ⟨h | h, _⟩ | ⟨h, _⟩ | ⟨h, _⟩
  · exact .inl h
  · exact .inr (.inl h)
  · exact .inr (.inr (.inl h))
  · exact .inr (.inr (.inr h))
/-- words, of points that are laid in a new block -/
theorem words_new (l : List Pt) (n : Nat) (cs : Array Value) (hl : l.length = n) (hn : n ≤ 64) (hcs : cs = (ptCells l).toArray) (word : List UInt8) (hw : word.length ≤ 43) (ho : ∀ p ∈ l, ok p = true) (w : World) (hE : Env w) (g : Nat) (hg : w.heap.size = g) :
    Calls Tryz.prog 33 #[strV word, .slice (some ⟨g, 0, none⟩) n n] (w.alloc (.cells cs 42)) fun e w' => e = .returned (strV (Lib.join (word :: l.map ptTxt) [32])) ∧ Kept Nob w w' := by
  subst hg hl hcs
  refine (script_words _ word _ l _ (PtsAt.new w l _) hw hn ho (hE.kept (Kept.alloc _ _ _))).mono ?_
  rintro e w' ⟨rfl, hk⟩
  exact ⟨rfl, (Kept.alloc Nob _ _).then hk⟩

set_option maxRecDepth 100000 in
set_option maxHeartbeats 4000000 in
theorem script_Query (w : World) (k x1 y1 x2 y2 : Int) (v : Value) (l : List Pt) (F : Nat → Prop) (h : PtsAt w v l F) (hl : l.length < 1000000000) (hE : Env w) :
    Calls Tryz.prog 14 #[.agg #[.int .i64 k, .int .i64 x1, .int .i64 y1, .int .i64 x2, .int .i64 y2, v]] w fun e w' => e = .returned (strV (qrText ⟨k, ⟨(x1, y1), (x2, y2)⟩, l⟩)) ∧ Kept Nob w w' := by
  obtain ⟨a, cap, rfl⟩ := h.shape
  have HP := Lib.hid h
  have HE := Lib.hid hE
  have HC := fun (wx : World) (kx : Kept Nob w wx) => Lib.hid (rel_CheckQuery wx k x1 y1 x2 y2 _ l F (h.nob kx) hl)
  clear h hE
  by_cases hok : QrOk ⟨k, ⟨(x1, y1), (x2, y2)⟩, l⟩
  case neg =>
    have HN : Hid (strV (qrText ⟨k, ⟨(x1, y1), (x2, y2)⟩, l⟩) = .string ⟨#[]⟩) := Lib.hid (by rw [qrText_no hok]; rfl)
    have HO := Lib.hid hok
    clear hok
    generalize QrOk ⟨k, ⟨(x1, y1), (x2, y2)⟩, l⟩ = p at *
    go_enter Tryz.func14, Tryz.ntmps14
    go_wp2_with fail
    refine (HC _ (Kept.alloc Nob _ _)).out.mono ?_
    rintro e w1 ⟨u, rfl, hu, hk⟩
    have HK := Lib.hid ((Kept.alloc Nob _ _).then hk)
    obtain ⟨t, u', rfl⟩ : ∃ t u', u = .iface t u' := by
      rcases hu with ⟨hp, _⟩ | ⟨_, t, u', h⟩
      · exact absurd hp HO.out
      · exact ⟨t, u', h⟩
    clear hu hk
    go_wp2_with fail
    go_ret
    exact ⟨by rw [HN.out]; rfl, HK.out⟩
  case pos =>
    have HO := Lib.hid hok
    have four := hok.four
    simp only at four
    rcases four with rfl | rfl | rfl | rfl
    · have HT : Hid (qrText ⟨1, ⟨(x1, y1), (x2, y2)⟩, l⟩ = _) := Lib.hid (qrText_is hok)
      have hb := (qr12 (q := ⟨1, ⟨(x1, y1), (x2, y2)⟩, l⟩) (by simp)).1 hok
      have HW1 := fun (wx : World) (kx : Kept Nob w wx) (g : Nat) (hg : wx.heap.size = g) => Lib.hid (words_new [(x1, y1), (x2, y2)] 2 #[.int .i64 x1, .int .i64 y1, .int .i64 x2, .int .i64 y2] rfl (by omega) rfl wMeets (by decide) (by intro p hp; simp at hp; rcases hp with rfl | rfl; exact hb.1; exact hb.2.1) wx (HE.out.kept kx) g hg)
      clear hb
      unfold strV wMeets at HW1
      unfold qrWords at HT
      clear hok HP
      go_enter Tryz.func14, Tryz.ntmps14
      go_wp2_with fail
      refine (HC _ (Kept.alloc Nob _ _)).out.mono ?_
      rintro e w1 ⟨u, rfl, hu, hk⟩
      obtain rfl : u = .nilIface := by
        rcases hu with ⟨_, h⟩ | ⟨h, _⟩
        · exact h
        · exact absurd HO.out h
      have b1 := new1 hk
      have c0 := cell_at b1 0 _ rfl
      have c1 := cell_at b1 1 _ rfl
      have c2 := cell_at b1 2 _ rfl
      have c3 := cell_at b1 3 _ rfl
      have c4 := cell_at b1 4 _ rfl
      have c5 := cell_at b1 5 _ rfl
      have HK := Lib.hid ((Kept.alloc Nob _ _).then hk)
      clear hu hk b1
      go_wp2_with fail
      refine (HW1 _ HK.out _ rfl).out.mono ?_
      rintro e w2 ⟨rfl, hk2⟩
      have HK2 := Lib.hid (HK.out.then hk2)
      clear hk2
      go_wp2_with fail
      go_ret
      exact ⟨by rw [HT.out]; rfl, HK2.out⟩
    · have HT : Hid (qrText ⟨2, ⟨(x1, y1), (x2, y2)⟩, l⟩ = _) := Lib.hid (qrText_is hok)
      have hb := (qr12 (q := ⟨2, ⟨(x1, y1), (x2, y2)⟩, l⟩) (by simp)).1 hok
      have HW1 := fun (wx : World) (kx : Kept Nob w wx) (g : Nat) (hg : wx.heap.size = g) => Lib.hid (words_new [(x1, y1), (x2, y2)] 2 #[.int .i64 x1, .int .i64 y1, .int .i64 x2, .int .i64 y2] rfl (by omega) rfl wInside (by decide) (by intro p hp; simp at hp; rcases hp with rfl | rfl; exact hb.1; exact hb.2.1) wx (HE.out.kept kx) g hg)
      clear hb
      unfold strV wInside at HW1
      unfold qrWords at HT
      clear hok HP
      go_enter Tryz.func14, Tryz.ntmps14
      go_wp2_with fail
      refine (HC _ (Kept.alloc Nob _ _)).out.mono ?_
      rintro e w1 ⟨u, rfl, hu, hk⟩
      obtain rfl : u = .nilIface := by
        rcases hu with ⟨_, h⟩ | ⟨h, _⟩
        · exact h
        · exact absurd HO.out h
      have b1 := new1 hk
      have c0 := cell_at b1 0 _ rfl
      have c1 := cell_at b1 1 _ rfl
      have c2 := cell_at b1 2 _ rfl
      have c3 := cell_at b1 3 _ rfl
      have c4 := cell_at b1 4 _ rfl
      have c5 := cell_at b1 5 _ rfl
      have HK := Lib.hid ((Kept.alloc Nob _ _).then hk)
      clear hu hk b1
      go_wp2_with fail
      refine (HW1 _ HK.out _ rfl).out.mono ?_
      rintro e w2 ⟨rfl, hk2⟩
      have HK2 := Lib.hid (HK.out.then hk2)
      clear hk2
      go_wp2_with fail
      go_ret
      exact ⟨by rw [HT.out]; rfl, HK2.out⟩
    · have HT : Hid (qrText ⟨3, ⟨(x1, y1), (x2, y2)⟩, l⟩ = _) := Lib.hid (qrText_is hok)
      have hb := (qr3 (q := ⟨3, ⟨(x1, y1), (x2, y2)⟩, l⟩) rfl).1 hok
      have HW1 := fun (wx : World) (kx : Kept Nob w wx) (g : Nat) (hg : wx.heap.size = g) => Lib.hid (words_new [(x1, y1)] 1 #[.int .i64 x1, .int .i64 y1] rfl (by omega) rfl wHas (by decide) (by intro p hp; simp at hp; rw [hp]; exact hb) wx (HE.out.kept kx) g hg)
      clear hb
      unfold strV wHas at HW1
      unfold qrWords at HT
      clear hok HP
      go_enter Tryz.func14, Tryz.ntmps14
      go_wp2_with fail
      refine (HC _ (Kept.alloc Nob _ _)).out.mono ?_
      rintro e w1 ⟨u, rfl, hu, hk⟩
      obtain rfl : u = .nilIface := by
        rcases hu with ⟨_, h⟩ | ⟨h, _⟩
        · exact h
        · exact absurd HO.out h
      have b1 := new1 hk
      have c0 := cell_at b1 0 _ rfl
      have c1 := cell_at b1 1 _ rfl
      have c2 := cell_at b1 2 _ rfl
      have c3 := cell_at b1 3 _ rfl
      have c4 := cell_at b1 4 _ rfl
      have c5 := cell_at b1 5 _ rfl
      have HK := Lib.hid ((Kept.alloc Nob _ _).then hk)
      clear hu hk b1
      go_wp2_with fail
      refine (HW1 _ HK.out _ rfl).out.mono ?_
      rintro e w2 ⟨rfl, hk2⟩
      have HK2 := Lib.hid (HK.out.then hk2)
      clear hk2
      go_wp2_with fail
      go_ret
      exact ⟨by rw [HT.out]; rfl, HK2.out⟩
    · have HT : Hid (qrText ⟨4, ⟨(x1, y1), (x2, y2)⟩, l⟩ = _) := Lib.hid (qrText_is hok)
      have hb := (qr4 (q := ⟨4, ⟨(x1, y1), (x2, y2)⟩, l⟩) rfl).1 hok
      have HW1 := fun (wx : World) (kx : Kept Nob w wx) => Lib.hid (script_words wx wCross _ l F (HP.out.nob kx) (by decide) hb.2.1 hb.2.2.1 (HE.out.kept kx))
      clear hb
      unfold strV wCross at HW1
      unfold qrWords at HT
      clear hok HP
      go_enter Tryz.func14, Tryz.ntmps14
      go_wp2_with fail
      refine (HC _ (Kept.alloc Nob _ _)).out.mono ?_
      rintro e w1 ⟨u, rfl, hu, hk⟩
      obtain rfl : u = .nilIface := by
        rcases hu with ⟨_, h⟩ | ⟨h, _⟩
        · exact h
        · exact absurd HO.out h
      have b1 := new1 hk
      have c0 := cell_at b1 0 _ rfl
      have c1 := cell_at b1 1 _ rfl
      have c2 := cell_at b1 2 _ rfl
      have c3 := cell_at b1 3 _ rfl
      have c4 := cell_at b1 4 _ rfl
      have c5 := cell_at b1 5 _ rfl
      have HK := Lib.hid ((Kept.alloc Nob _ _).then hk)
      clear hu hk b1
      go_wp2_with fail
      refine (HW1 _ HK.out).out.mono ?_
      rintro e w2 ⟨rfl, hk2⟩
      have HK2 := Lib.hid (HK.out.then hk2)
      clear hk2
      go_wp2_with fail
      go_ret
      exact ⟨by rw [HT.out]; rfl, HK2.out⟩
end Go.Proofs.YthjiobmglebmdaaGreatDoor
