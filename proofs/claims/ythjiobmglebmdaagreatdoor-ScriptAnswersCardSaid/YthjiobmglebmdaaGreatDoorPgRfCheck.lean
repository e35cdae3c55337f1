/- The document's own Check, CheckQuery, Points, Same, May. -/
import Derived.Test.YthjiobmglebmdaaGreatDoorPgRfRing
namespace Go.Proofs.YthjiobmglebmdaaGreatDoor
open Go.RowKit
open Go.Proofs.YthjiobmglebmdaaGreatDoor.Geo Go.Proofs.YthjiobmglebmdaaGreatDoor.Txt

/-- behind a call that answers a number: 0 just where p holds -/
def RetCode (w : World) (p : Prop) (e : Ending) (w' : World) : Prop := ∃ c, e = .returned (.int .i64 c) ∧ (c = 0 ↔ p) ∧ Kept Nob w w'
theorem RetCode.yes {w w' : World} {p : Prop} (h : p) (hk : Kept Nob w w') : RetCode w p (.returned (.int .i64 0)) w' := ⟨0, rfl, ⟨fun _ => h, fun _ => rfl⟩, hk⟩
theorem RetCode.no {w w' : World} {p : Prop} {c : Int} (h : ¬ p) (hc : c ≠ 0) (hk : Kept Nob w w') : RetCode w p (.returned (.int .i64 c)) w' := ⟨c, rfl, ⟨fun e => absurd e hc, fun e => absurd e h⟩, hk⟩
set_option maxRecDepth 100000 in
set_option maxHeartbeats 8000000 in
theorem ref_Check (w : World) (k : Int) (v : Value) (l : List Pt) (F : Nat → Prop) (h : PtsAt w v l F) (hl : l.length < 1000000000) :
    Calls Tryz.prog 15 #[.agg #[.int .i64 k, v]] w (RetCode w (ObOk ⟨k, l⟩)) := by
  obtain ⟨a, cap, rfl⟩ := h.shape
  have HP := Lib.hid h
  clear h
  by_cases h1 : k = 1
  · subst h1
    have HB := Lib.hid (ob1 l)
    by_cases hl1 : l.length = 1
    · obtain ⟨p, rfl⟩ := len_one hl1
      obtain ⟨x, y⟩ := p
      obtain ⟨b, o, rfl, -, hb, -, c0, c1⟩ := HP.out.at (i := 0) rfl
      simp only [Nat.zero_mul, Nat.add_zero] at c0 c1
      obtain ⟨r, hr⟩ : ∃ r, ok (x, y) = r := ⟨_, rfl⟩
      have HC := fun wx : World => Lib.hid (ref_Point wx x y r hr)
      have HR := Lib.hid hr
      simp only [List.length_singleton] at *
      clear hr hl1
      cases r with
      | false =>
        have HN : Hid (¬ ObOk ⟨1, [(x, y)]⟩) := Lib.hid (fun h => by
          obtain ⟨p, hp, ho⟩ := HB.out.1 h
          simp only [List.cons.injEq, and_true] at hp
          rw [← hp, HR.out] at ho; cases ho)
        clear HB
        go_enter Tryz.func15, Tryz.ntmps15
        go_wp2_with fail
        refine (HC _).out.mono ?_
        rintro e w1 ⟨rfl, hk1⟩
        have HK := Lib.hid ((Kept.alloc Nob w _).then hk1)
        clear hk1
        go_wp2_with fail
        go_ret
        exact RetCode.no HN.out (by decide) HK.out
      | true =>
        have HY : Hid (ObOk ⟨1, [(x, y)]⟩) := Lib.hid (HB.out.2 ⟨_, rfl, HR.out⟩)
        clear HB
        go_enter Tryz.func15, Tryz.ntmps15
        go_wp2_with fail
        refine (HC _).out.mono ?_
        rintro e w1 ⟨rfl, hk1⟩
        have d0 := cell_at (new1 hk1) 0 _ rfl
        have d1 := cell_at (new1 hk1) 1 _ rfl
        have HK := Lib.hid ((Kept.alloc Nob w _).then hk1)
        clear hk1
        go_wp2_with fail
        go_quiet (fail)
        go_wp2_with fail
        go_ret
        exact RetCode.yes HY.out (HK.out.then (Kept.drewN _ _ _))
    · have HN : Hid (¬ ObOk ⟨1, l⟩) := Lib.hid (fun h => by
        obtain ⟨p, hp, -⟩ := HB.out.1 h
        rw [hp] at hl1
        simp at hl1)
      have hb1 : ((l.length : Int) != 1) = true := by simpa using (show ¬ (l.length : Int) = 1 by omega)
      clear HB
      go_enter Tryz.func15, Tryz.ntmps15
      go_wp2_with fail
      go_ret
      exact RetCode.no HN.out (by decide) (Kept.alloc _ _ _)
  by_cases h2 : k = 2
  · subst h2
    clear h1
    have HB := Lib.hid (ob2 l)
    by_cases hl1 : l.length = 1
    · obtain ⟨p, rfl⟩ := len_one hl1
      obtain ⟨x, y⟩ := p
      obtain ⟨b, o, rfl, -, hb, -, c0, c1⟩ := HP.out.at (i := 0) rfl
      simp only [Nat.zero_mul, Nat.add_zero] at c0 c1
      obtain ⟨r, hr⟩ : ∃ r, ok (x, y) = r := ⟨_, rfl⟩
      have HC := fun wx : World => Lib.hid (ref_Point wx x y r hr)
      have HR := Lib.hid hr
      simp only [List.length_singleton] at *
      clear hr hl1
      cases r with
      | false =>
        have HN : Hid (¬ ObOk ⟨2, [(x, y)]⟩) := Lib.hid (fun h => by
          obtain ⟨p, hp, ho, -⟩ := HB.out.1 h
          simp only [List.cons.injEq, and_true] at hp
          rw [← hp, HR.out] at ho; cases ho)
        clear HB
        go_enter Tryz.func15, Tryz.ntmps15
        go_wp2_with fail
        refine (HC _).out.mono ?_
        rintro e w1 ⟨rfl, hk1⟩
        have HK := Lib.hid ((Kept.alloc Nob w _).then hk1)
        clear hk1
        go_wp2_with fail
        go_ret
        exact RetCode.no HN.out (by decide) HK.out
      | true =>
        by_cases hxy : y < x
        case pos =>
          have HN : Hid (¬ ObOk ⟨2, [(x, y)]⟩) := Lib.hid (fun h => by
            obtain ⟨p, hp, -, ho⟩ := HB.out.1 h
            simp only [List.cons.injEq, and_true] at hp
            rw [← hp] at ho
            simp only at ho
            omega)
          have hd : decide (y < x) = true := decide_eq_true hxy
          clear HB
          go_enter Tryz.func15, Tryz.ntmps15
          go_wp2_with fail
          refine (HC _).out.mono ?_
          rintro e w1 ⟨rfl, hk1⟩
          have d0 := cell_at (new1 hk1) 0 _ rfl
          have d1 := cell_at (new1 hk1) 1 _ rfl
          have c2 := (hk1.cell (p := ⟨b, o, none⟩) (by simp; omega) (fun f => f)).trans (((Kept.alloc Nob w _).cell (p := ⟨b, o, none⟩) hb (fun f => f)).trans c0)
          have c3 := (hk1.cell (p := ⟨b, o + 1, none⟩) (by simp; omega) (fun f => f)).trans (((Kept.alloc Nob w _).cell (p := ⟨b, o + 1, none⟩) hb (fun f => f)).trans c1)
          have HK := Lib.hid ((Kept.alloc Nob w _).then hk1)
          clear hk1 c0 c1
          go_wp2_with fail
          go_quiet (fail)
          go_wp2_with fail
          go_ret
          exact RetCode.no HN.out (by decide) (HK.out.then (Kept.drewN _ _ _))
        case neg =>
          have HY : Hid (ObOk ⟨2, [(x, y)]⟩) := Lib.hid (HB.out.2 ⟨_, rfl, HR.out, by simp only; omega⟩)
          have hd : decide (y < x) = false := decide_eq_false hxy
          clear HB
          go_enter Tryz.func15, Tryz.ntmps15
          go_wp2_with fail
          refine (HC _).out.mono ?_
          rintro e w1 ⟨rfl, hk1⟩
          have d0 := cell_at (new1 hk1) 0 _ rfl
          have d1 := cell_at (new1 hk1) 1 _ rfl
          have c2 := (hk1.cell (p := ⟨b, o, none⟩) (by simp; omega) (fun f => f)).trans (((Kept.alloc Nob w _).cell (p := ⟨b, o, none⟩) hb (fun f => f)).trans c0)
          have c3 := (hk1.cell (p := ⟨b, o + 1, none⟩) (by simp; omega) (fun f => f)).trans (((Kept.alloc Nob w _).cell (p := ⟨b, o + 1, none⟩) hb (fun f => f)).trans c1)
          have HK := Lib.hid ((Kept.alloc Nob w _).then hk1)
          clear hk1 c0 c1
          go_wp2_with fail
          go_quiet (fail)
          go_wp2_with fail
          go_ret
          exact RetCode.yes HY.out (HK.out.then (Kept.drewN _ _ _))
    · have HN : Hid (¬ ObOk ⟨2, l⟩) := Lib.hid (fun h => by
        obtain ⟨p, hp, -⟩ := HB.out.1 h
        rw [hp] at hl1
        simp at hl1)
      have hb1 : ((l.length : Int) != 1) = true := by simpa using (show ¬ (l.length : Int) = 1 by omega)
      clear HB
      go_enter Tryz.func15, Tryz.ntmps15
      go_wp2_with fail
      go_ret
      exact RetCode.no HN.out (by decide) (Kept.alloc _ _ _)
  by_cases h3 : k = 3
  · subst h3
    clear h1 h2
    have HB := Lib.hid (ob3 l)
    by_cases hl2 : l.length = 2
    · obtain ⟨p, q, rfl⟩ := len_two hl2
      obtain ⟨x1, y1⟩ := p
      obtain ⟨x2, y2⟩ := q
      obtain ⟨b, o, rfl, -, hb, -, c0, c1⟩ := HP.out.at (i := 0) rfl
      obtain ⟨_, _, e', -, -, -, c2, c3⟩ := HP.out.at (i := 1) rfl
      simp only [Option.some.injEq, Addr.mk.injEq, and_true] at e'
      obtain ⟨rfl, rfl⟩ := e'
      simp only [Nat.zero_mul, Nat.add_zero, Nat.one_mul] at c0 c1 c2 c3
      have HC := fun wx : World => Lib.hid (ref_CheckBox wx x1 y1 x2 y2)
      have HR : Hid (cbCode x1 y1 x2 y2 = 0 ↔ ObOk ⟨3, [(x1, y1), (x2, y2)]⟩) := Lib.hid (by
        rw [cbCode_zero, HB.out]
        constructor
        · intro h; exact ⟨_, _, rfl, (bxOk_iff (x1, y1) (x2, y2)).1 h⟩
        · rintro ⟨p, q, hpq, h⟩
          simp only [List.cons.injEq, and_true] at hpq
          obtain ⟨rfl, rfl⟩ := hpq
          exact (bxOk_iff (x1, y1) (x2, y2)).2 h)
      simp only [List.length_cons, List.length_nil, Nat.zero_add, Nat.reduceAdd] at *
      clear HB hl2
      generalize cbCode x1 y1 x2 y2 = res at *
      go_enter Tryz.func15, Tryz.ntmps15
      go_wp2_with fail
      go_region_held3 (fun w' => w'.cell? ⟨b, o, none⟩ = some (.int .i64 x1) ∧ w'.cell? ⟨b, o + 1, none⟩ = some (.int .i64 y1) ∧ w'.cell? ⟨b, o + 2, none⟩ = some (.int .i64 x2) ∧ w'.cell? ⟨b, o + 2 + 1, none⟩ = some (.int .i64 y2)) ((go_keep; done))
        (((go_at_call 37; (with_reducible refine (HC _).out.mono ?_); rintro e w3 ⟨rfl, hk3⟩; have hD := (Kept.alloc Nob w _).then ((Kept.drew Nob _).then hk3); have HK3 := Lib.hid hD; have q0 := (hD.cell (p := ⟨b, o, none⟩) hb (fun f => f)).trans c0; have q1 := (hD.cell (p := ⟨b, o + 1, none⟩) hb (fun f => f)).trans c1; have q2 := (hD.cell (p := ⟨b, o + 2, none⟩) hb (fun f => f)).trans c2; have q3 := (hD.cell (p := ⟨b, o + 2 + 1, none⟩) hb (fun f => f)).trans c3; clear hk3 hD)))
      go_wp2_with fail
      go_ret
      exact ⟨_, rfl, HR.out, HK3.out⟩
    · have HN : Hid (¬ ObOk ⟨3, l⟩) := Lib.hid (fun h => by
        obtain ⟨p, q, hp, -⟩ := HB.out.1 h
        rw [hp] at hl2
        simp at hl2)
      have hb1 : ((l.length : Int) != 2) = true := by simpa using (show ¬ (l.length : Int) = 2 by omega)
      clear HB
      go_enter Tryz.func15, Tryz.ntmps15
      go_wp2_with fail
      go_ret
      exact RetCode.no HN.out (by decide) (Kept.alloc _ _ _)
  by_cases h4 : k = 4
  · subst h4
    clear h1 h2 h3
    have HB := Lib.hid (ob4 l)
    have HC := fun (wx : World) (kx : Kept Nob w wx) => Lib.hid (ref_CheckRing wx _ l F (HP.out.nob kx) hl)
    go_enter Tryz.func15, Tryz.ntmps15
    go_wp2_with fail
    refine (HC _ (Kept.alloc _ _ _)).out.mono ?_
    rintro e w1 ⟨c, d, rfl, hc, hk1⟩
    have HCc := Lib.hid hc
    have HK := Lib.hid ((Kept.alloc Nob w _).then hk1)
    clear hc hk1
    go_wp2_with fail
    go_ret
    exact ⟨_, rfl, HCc.out.trans HB.out.symm, HK.out⟩
  · have HN : Hid (¬ ObOk ⟨k, l⟩) := Lib.hid (ob_no l h1 h2 h3 h4)
    have b1 : (k == 1) = false := beq_eq_false_iff_ne.2 h1
    have b2 : (k == 2) = false := beq_eq_false_iff_ne.2 h2
    have b3 : (k == 3) = false := beq_eq_false_iff_ne.2 h3
    have b4 : (k == 4) = false := beq_eq_false_iff_ne.2 h4
    go_enter Tryz.func15, Tryz.ntmps15
    go_wp2_with fail
    go_ret
    exact RetCode.no HN.out (by decide) (Kept.alloc _ _ _)
end Go.Proofs.YthjiobmglebmdaaGreatDoor
