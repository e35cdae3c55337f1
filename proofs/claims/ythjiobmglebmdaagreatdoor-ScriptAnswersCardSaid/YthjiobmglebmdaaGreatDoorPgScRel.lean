/- rel: box, check, Check, query, CheckQuery. -/
import Derived.Test.YthjiobmglebmdaaGreatDoorPgScCheck
namespace Go.Proofs.YthjiobmglebmdaaGreatDoor
open Go.RowKit
open Go.Proofs.YthjiobmglebmdaaGreatDoor.Geo Go.Proofs.YthjiobmglebmdaaGreatDoor.Txt

set_option maxHeartbeats 1000000 in
theorem rel_box1 (w : World) (b o cap : Nat) (x1 y1 : Int) (hb : b < w.heap.size) (h0 : w.cell? ⟨b, o, none⟩ = some (.int .i64 x1)) (h1 : w.cell? ⟨b, o + 1, none⟩ = some (.int .i64 y1)) :
    Calls Tryz.prog 90 #[.agg #[.int .i64 1, .slice (some ⟨b, o, none⟩) 1 cap]] w fun e w' => e = .returned (.tuple #[.agg #[.int .i64 x1, .int .i64 y1, .int .i64 x1, .int .i64 y1], .bool true]) ∧ Kept Nob w w' := by
  have c0 : ((w.alloc (.cells #[.int .i64 1, .slice (some ⟨b, o, none⟩) 1 cap] 26)).alloc (.cells #[.int .i64 0, .int .i64 0, .int .i64 0, .int .i64 0] 44)).cell? ⟨b, o, none⟩ = some (.int .i64 x1) := (((Kept.alloc Nob w _).then (Kept.alloc Nob _ _)).cell (p := ⟨b, o, none⟩) hb (fun f => f)).trans h0
  have c1 : ((w.alloc (.cells #[.int .i64 1, .slice (some ⟨b, o, none⟩) 1 cap] 26)).alloc (.cells #[.int .i64 0, .int .i64 0, .int .i64 0, .int .i64 0] 44)).cell? ⟨b, o + 1, none⟩ = some (.int .i64 y1) := (((Kept.alloc Nob w _).then (Kept.alloc Nob _ _)).cell (p := ⟨b, o + 1, none⟩) hb (fun f => f)).trans h1
  have e0 : w.heap.size ≠ w.heap.size + 1 := by omega
  have e1 : b ≠ w.heap.size + 1 := by omega
  have e2 : b ≠ w.heap.size := by omega
  go_enter Tryz.func90, Tryz.ntmps90
  go_wp2_with fail
  go_region_held3 (fun w' => w'.cell? ⟨w.heap.size, 1, none⟩ = some (.slice (some ⟨b, o, none⟩) 1 cap) ∧ w'.cell? ⟨b, o, none⟩ = some (.int .i64 x1) ∧ w'.cell? ⟨b, o + 1, none⟩ = some (.int .i64 y1)) ((go_keep; done)) (fail)
  go_wp2_with fail
  refine bodyPost_ret (v := .tuple #[.agg #[.int .i64 x1, .int .i64 y1, .int .i64 x1, .int .i64 y1], .bool true]) ?_ rfl ⟨rfl, ((Kept.alloc Nob w _).then (Kept.alloc Nob _ _)).then (Kept.drew Nob _)⟩
  have hres : Tryz.f90.results = #[.cell 2 44, .tmp 3] := by kernel_rfl
  simp only [results, hres]
  go_simp
set_option maxHeartbeats 1000000 in
theorem rel_box3 (w : World) (b o cap : Nat) (x1 y1 x2 y2 : Int) (hb : b < w.heap.size) (h0 : w.cell? ⟨b, o, none⟩ = some (.int .i64 x1)) (h1 : w.cell? ⟨b, o + 1, none⟩ = some (.int .i64 y1)) (h2 : w.cell? ⟨b, o + 2, none⟩ = some (.int .i64 x2)) (h3 : w.cell? ⟨b, o + 3, none⟩ = some (.int .i64 y2)) :
    Calls Tryz.prog 90 #[.agg #[.int .i64 3, .slice (some ⟨b, o, none⟩) 2 cap]] w fun e w' => e = .returned (.tuple #[.agg #[.int .i64 x1, .int .i64 y1, .int .i64 x2, .int .i64 y2], .bool true]) ∧ Kept Nob w w' := by
  have c0 : ((w.alloc (.cells #[.int .i64 3, .slice (some ⟨b, o, none⟩) 2 cap] 26)).alloc (.cells #[.int .i64 0, .int .i64 0, .int .i64 0, .int .i64 0] 44)).cell? ⟨b, o, none⟩ = some (.int .i64 x1) := (((Kept.alloc Nob w _).then (Kept.alloc Nob _ _)).cell (p := ⟨b, o, none⟩) hb (fun f => f)).trans h0
  have c1 : ((w.alloc (.cells #[.int .i64 3, .slice (some ⟨b, o, none⟩) 2 cap] 26)).alloc (.cells #[.int .i64 0, .int .i64 0, .int .i64 0, .int .i64 0] 44)).cell? ⟨b, o + 1, none⟩ = some (.int .i64 y1) := (((Kept.alloc Nob w _).then (Kept.alloc Nob _ _)).cell (p := ⟨b, o + 1, none⟩) hb (fun f => f)).trans h1
  have c2 : ((w.alloc (.cells #[.int .i64 3, .slice (some ⟨b, o, none⟩) 2 cap] 26)).alloc (.cells #[.int .i64 0, .int .i64 0, .int .i64 0, .int .i64 0] 44)).cell? ⟨b, o + 2, none⟩ = some (.int .i64 x2) := (((Kept.alloc Nob w _).then (Kept.alloc Nob _ _)).cell (p := ⟨b, o + 2, none⟩) hb (fun f => f)).trans h2
  have c3 : ((w.alloc (.cells #[.int .i64 3, .slice (some ⟨b, o, none⟩) 2 cap] 26)).alloc (.cells #[.int .i64 0, .int .i64 0, .int .i64 0, .int .i64 0] 44)).cell? ⟨b, o + 3, none⟩ = some (.int .i64 y2) := (((Kept.alloc Nob w _).then (Kept.alloc Nob _ _)).cell (p := ⟨b, o + 3, none⟩) hb (fun f => f)).trans h3
  have e0 : w.heap.size ≠ w.heap.size + 1 := by omega
  have e1 : b ≠ w.heap.size + 1 := by omega
  have e2 : b ≠ w.heap.size := by omega
  go_enter Tryz.func90, Tryz.ntmps90
  go_wp2_with fail
  go_region_held3 (fun w' => w'.cell? ⟨w.heap.size, 1, none⟩ = some (.slice (some ⟨b, o, none⟩) 2 cap) ∧ w'.cell? ⟨b, o, none⟩ = some (.int .i64 x1) ∧ w'.cell? ⟨b, o + 1, none⟩ = some (.int .i64 y1) ∧ w'.cell? ⟨b, o + 2, none⟩ = some (.int .i64 x2) ∧ w'.cell? ⟨b, o + 3, none⟩ = some (.int .i64 y2)) ((go_keep; done)) (fail)
  go_wp2_with fail
  refine bodyPost_ret (v := .tuple #[.agg #[.int .i64 x1, .int .i64 y1, .int .i64 x2, .int .i64 y2], .bool true]) ?_ rfl ⟨rfl, ((Kept.alloc Nob w _).then (Kept.alloc Nob _ _)).then (Kept.drew Nob _)⟩
  have hres : Tryz.f90.results = #[.cell 2 44, .tmp 3] := by kernel_rfl
  simp only [results, hres]
  go_simp
theorem rel_verts (w : World) (k : Int) : Calls Tryz.prog 88 #[.int .i64 k] w fun e w' => e = .returned (.int .i64 (if k = 3 then 2 else 1)) ∧ w = w' := by
  by_cases h : k = 3
  · subst h
    rw [if_pos rfl]
    go_enter Tryz.func88, Tryz.ntmps88
    go_wp2
    go_ret
    exact ⟨rfl, rfl⟩
  · rw [if_neg h]
    have hb : (k == 3) = false := beq_eq_false_iff_ne.2 h
    clear h
    go_enter Tryz.func88, Tryz.ntmps88
    go_wp2
    go_ret
    exact ⟨rfl, rfl⟩
theorem rel_interval (w : World) (x y : Int) : Calls Tryz.prog 89 #[.agg #[.int .i64 x, .int .i64 y]] w (RetChk w (ok (x, y) = true ∧ x ≤ y)) := by
  have HC := fun wx : World => Lib.hid (checkPoint_any wx x y (ok (x, y)) rfl)
  generalize ok (x, y) = r at *
  cases r with
  | false =>
    simp only [Bool.false_eq_true, if_false] at HC
    go_enter Tryz.func89, Tryz.ntmps89
    go_wp2_with fail
    refine (HC _).out.mono ?_
    rintro e w1 ⟨rfl, hk⟩
    have HK := Lib.hid ((Kept.alloc Nob _ _).then hk)
    clear hk
    go_wp2_with fail
    go_ret
    exact ⟨_, rfl, NilIff.no (fun h => by simp at h) _ _, HK.out⟩
  | true =>
    simp only [if_true] at HC
    go_enter Tryz.func89, Tryz.ntmps89
    go_wp2_with fail
    refine (HC _).out.mono ?_
    rintro e w1 ⟨rfl, hk⟩
    have b1 := new1 hk
    have c1 := cell_at b1 0 _ rfl
    have c2 := cell_at b1 1 _ rfl
    have HK := Lib.hid ((Kept.alloc Nob _ _).then hk)
    clear hk b1
    by_cases hxy : x ≤ y
    · have HX := Lib.hid hxy
      go_wp2_with fail
      go_ret
      exact ⟨_, rfl, NilIff.yes ⟨by simp, HX.out⟩, HK.out⟩
    · have HX := Lib.hid hxy
      go_wp2_with fail
      go_ret
      exact ⟨_, rfl, NilIff.no (fun h => by have h1 := HX.out; have h2 := h.2; omega) _ _, HK.out⟩

theorem MayErr.iff {r : Bool} {v : Value} (h : MayErr r v) : NilIff (r = true) v := by
  cases r with
  | true => exact .inl ⟨rfl, h⟩
  | false => obtain ⟨t, u, rfl, -⟩ := h; exact .inr ⟨by simp, t, u, rfl⟩
theorem ob1 (l : List Pt) : ObOk ⟨1, l⟩ ↔ ∃ p, l = [p] ∧ ok p = true := by
  constructor
  · rintro (⟨_, h, ho⟩ | ⟨h, _⟩ | ⟨h, _⟩ | ⟨h, _⟩)
    · match l, h, ho with
      | [p], _, ho => exact ⟨p, rfl, ho p (by simp)⟩
    · simp at h
    · simp at h
    · simp at h
  · rintro ⟨p, rfl, h⟩
    exact .inl ⟨rfl, rfl, fun x hx => by simp at hx; rw [hx]; exact h⟩
theorem ob2 (l : List Pt) : ObOk ⟨2, l⟩ ↔ ∃ p, l = [p] ∧ ok p = true ∧ p.1 ≤ p.2 := by
  constructor
  · rintro (⟨h, _⟩ | ⟨_, h⟩ | ⟨h, _⟩ | ⟨h, _⟩)
    · simp at h
    · exact h
    · simp at h
    · simp at h
  · intro h
    exact .inr (.inl ⟨rfl, h⟩)
theorem ob3 (l : List Pt) : ObOk ⟨3, l⟩ ↔ ∃ p q, l = [p, q] ∧ BxOk ⟨p, q⟩ := by
  constructor
  · rintro (⟨h, _⟩ | ⟨h, _⟩ | ⟨_, h⟩ | ⟨h, _⟩)
    · simp at h
    · simp at h
    · exact h
    · simp at h
  · intro h
    exact .inr (.inr (.inl ⟨rfl, h⟩))
theorem ob4 (l : List Pt) : ObOk ⟨4, l⟩ ↔ RingOk l := by
  constructor
  · rintro (⟨h, _⟩ | ⟨h, _⟩ | ⟨h, _⟩ | ⟨_, h⟩)
    · simp at h
    · simp at h
    · simp at h
    · exact h
  · intro h
    exact .inr (.inr (.inr ⟨rfl, h⟩))
theorem ob_no {k : Int} (l : List Pt) (h1 : k ≠ 1) (h2 : k ≠ 2) (h3 : k ≠ 3) (h4 : k ≠ 4) : ¬ ObOk ⟨k, l⟩ := by
  rintro (⟨h, _⟩ | ⟨h, _⟩ | ⟨h, _⟩ | ⟨h, _⟩) <;> simp at h <;> contradiction
theorem bxOk_iff (p q : Pt) : bxOk p.1 p.2 q.1 q.2 = true ↔ BxOk ⟨p, q⟩ := by
  simp only [bxOk, BxOk, Bool.and_eq_true, decide_eq_true_eq, and_assoc]
theorem len_one {l : List Pt} (h : l.length = 1) : ∃ p, l = [p] := by
  match l, h with
  | [p], _ => exact ⟨p, rfl⟩
theorem len_two {l : List Pt} (h : l.length = 2) : ∃ p q, l = [p, q] := by
  match l, h with
  | [p, q], _ => exact ⟨p, q, rfl⟩

set_option maxRecDepth 100000 in
set_option maxHeartbeats 4000000 in
theorem rel_check (w : World) (k : Int) (v : Value) (l : List Pt) (F : Nat → Prop) (h : PtsAt w v l F) (hl : l.length < 1000000000) :
    Calls Tryz.prog 64 #[.agg #[.int .i64 k, v]] w (RetChk w (ObOk ⟨k, l⟩)) := by
  obtain ⟨a, cap, rfl⟩ := h.shape
  have HP := Lib.hid h
  have HV := fun wx => Lib.hid (rel_verts wx k)
  by_cases k1 : k = 1
  · subst k1
    rw [if_neg (by omega)] at HV
    by_cases hn : l.length = 1
    · obtain ⟨p, rfl⟩ := len_one hn
      obtain ⟨b, o, rfl, -, hb, -, c0, c1⟩ := h.at (i := 0) (p := p) rfl
      obtain ⟨x, y⟩ := p
      simp only [Nat.zero_mul, Nat.add_zero] at c0 c1
      have HB := fun (wx : World) (kx : Kept Nob w wx) => Lib.hid (rel_box1 wx b o cap x y (Nat.lt_of_lt_of_le hb kx.size) ((kx.cell (p := ⟨b, o, none⟩) hb (fun f => f)).trans c0) ((kx.cell (p := ⟨b, o + 1, none⟩) hb (fun f => f)).trans c1))
      have HC := fun wx => Lib.hid (checkBox_any wx x y x y)
      have HO : Hid (bxOk x y x y = true ↔ ObOk ⟨1, [(x, y)]⟩) := Lib.hid (by
        rw [ob1, bxOk_iff (x, y) (x, y)]
        exact ⟨fun h => ⟨_, rfl, h.1⟩, fun ⟨p, hp, h⟩ => by simp at hp; rw [← hp] at h; exact ⟨h, h, Int.le_refl _, Int.le_refl _⟩⟩)
      clear c0 c1 h hn HP
      go_enter Tryz.func64, Tryz.ntmps64
      go_wp2_with fail
      go_quiet ((go_at_call 88; exact Calls.quiet_of_same ((HV _).out.mono fun e w' h => ⟨h.1, h.2.symm⟩)))
      go_wp2_with fail
      refine (HB _ ((Kept.alloc Nob _ _).then (Kept.drewN Nob _ _))).out.mono ?_
      rintro e w1 ⟨rfl, hk⟩
      have HK := Lib.hid (((Kept.alloc Nob w _).then (Kept.drewN Nob _ _)).then hk)
      clear hk
      go_wp2_with fail
      refine (HC _).out.mono ?_
      rintro e w2 ⟨u, rfl, hu, hk⟩
      have HK2 := Lib.hid ((HK.out.then (Kept.alloc Nob _ _)).then hk)
      have HU := Lib.hid (hu.iff.congr HO.out)
      clear hk hu
      go_wp2_with fail
      go_ret
      exact ⟨_, rfl, HU.out, HK2.out⟩
    · have hb : ((l.length : Int) != 1) = true := by simp; omega
      have HN : Hid (¬ ObOk ⟨1, l⟩) := Lib.hid (by rw [ob1]; rintro ⟨p, rfl, _⟩; simp at hn)
      clear hn h HP
      go_enter Tryz.func64, Tryz.ntmps64
      go_wp2_with fail
      go_quiet ((go_at_call 88; exact Calls.quiet_of_same ((HV _).out.mono fun e w' h => ⟨h.1, h.2.symm⟩)))
      go_wp2_with fail
      go_ret
      exact ⟨_, rfl, NilIff.no HN.out _ _, (Kept.alloc Nob _ _).then (Kept.drewN Nob _ _)⟩
  by_cases k2 : k = 2
  · subst k2
    rw [if_neg (by omega)] at HV
    by_cases hn : l.length = 1
    · obtain ⟨p, rfl⟩ := len_one hn
      obtain ⟨b, o, rfl, -, hb, -, c0, c1⟩ := h.at (i := 0) (p := p) rfl
      obtain ⟨x, y⟩ := p
      simp only [Nat.zero_mul, Nat.add_zero] at c0 c1
      have HI := fun (wx : World) => Lib.hid (rel_interval wx x y)
      have HO : Hid ((ok (x, y) = true ∧ x ≤ y) ↔ ObOk ⟨2, [(x, y)]⟩) := Lib.hid (by
        rw [ob2]
        exact ⟨fun h => ⟨_, rfl, h.1, h.2⟩, fun ⟨p, hp, h⟩ => by simp at hp; rw [← hp] at h; exact h⟩)
      have C0 := fun (wx : World) (kx : Kept Nob w wx) => Lib.hid ((kx.cell (p := ⟨b, o, none⟩) hb (fun f => f)).trans c0)
      have C1 := fun (wx : World) (kx : Kept Nob w wx) => Lib.hid ((kx.cell (p := ⟨b, o + 1, none⟩) hb (fun f => f)).trans c1)
      clear c0 c1 h hn HP
      go_enter Tryz.func64, Tryz.ntmps64
      go_wp2_with fail
      go_quiet ((go_at_call 88; exact Calls.quiet_of_same ((HV _).out.mono fun e w' h => ⟨h.1, h.2.symm⟩)))
      have d0 := (C0 _ ((Kept.alloc Nob w (.cells #[.int .i64 2, .slice (some ⟨b, o, none⟩) 1 cap] 26)).then (Kept.drewN Nob _ nq))).out
      have d1 := (C1 _ ((Kept.alloc Nob w (.cells #[.int .i64 2, .slice (some ⟨b, o, none⟩) 1 cap] 26)).then (Kept.drewN Nob _ nq))).out
      go_wp2_with fail
      refine (HI _).out.mono ?_
      rintro e w2 ⟨u, rfl, hu, hk⟩
      have HK2 := Lib.hid (((Kept.alloc Nob w _).then (Kept.drewN Nob _ _)).then hk)
      have HU := Lib.hid (hu.congr HO.out)
      clear hk hu
      go_wp2_with fail
      go_ret
      exact ⟨_, rfl, HU.out, HK2.out⟩
    · have hb : ((l.length : Int) != 1) = true := by simp; omega
      have HN : Hid (¬ ObOk ⟨2, l⟩) := Lib.hid (by rw [ob2]; rintro ⟨p, rfl, _⟩; simp at hn)
      clear hn h HP
      go_enter Tryz.func64, Tryz.ntmps64
      go_wp2_with fail
      go_quiet ((go_at_call 88; exact Calls.quiet_of_same ((HV _).out.mono fun e w' h => ⟨h.1, h.2.symm⟩)))
      go_wp2_with fail
      go_ret
      exact ⟨_, rfl, NilIff.no HN.out _ _, (Kept.alloc Nob _ _).then (Kept.drewN Nob _ _)⟩
  by_cases k3 : k = 3
  · subst k3
    rw [if_pos rfl] at HV
    by_cases hn : l.length = 2
    · obtain ⟨p, q, rfl⟩ := len_two hn
      obtain ⟨b, o, rfl, -, hb, -, c0, c1⟩ := h.at (i := 0) (p := p) rfl
      obtain ⟨b', o', e', -, -, -, c2, c3⟩ := h.at (i := 1) (p := q) rfl
      simp only [Option.some.injEq, Addr.mk.injEq, and_true] at e'
      obtain ⟨rfl, rfl⟩ := e'
      obtain ⟨x, y⟩ := p
      obtain ⟨x2, y2⟩ := q
      simp only [Nat.zero_mul, Nat.add_zero, Nat.one_mul, Nat.add_assoc] at c0 c1 c2 c3
      have HB := fun (wx : World) (kx : Kept Nob w wx) => Lib.hid (rel_box3 wx b o cap x y x2 y2 (Nat.lt_of_lt_of_le hb kx.size) ((kx.cell (p := ⟨b, o, none⟩) hb (fun f => f)).trans c0) ((kx.cell (p := ⟨b, o + 1, none⟩) hb (fun f => f)).trans c1) ((kx.cell (p := ⟨b, o + 2, none⟩) hb (fun f => f)).trans c2) ((kx.cell (p := ⟨b, o + 3, none⟩) hb (fun f => f)).trans c3))
      have HC := fun wx => Lib.hid (checkBox_any wx x y x2 y2)
      have HO : Hid (bxOk x y x2 y2 = true ↔ ObOk ⟨3, [(x, y), (x2, y2)]⟩) := Lib.hid (by
        rw [ob3, bxOk_iff (x, y) (x2, y2)]
        exact ⟨fun h => ⟨_, _, rfl, h⟩, fun ⟨p, q, hp, h⟩ => by simp at hp; rw [← hp.1, ← hp.2] at h; exact h⟩)
      clear c0 c1 c2 c3 h hn HP
      go_enter Tryz.func64, Tryz.ntmps64
      go_wp2_with fail
      go_quiet ((go_at_call 88; exact Calls.quiet_of_same ((HV _).out.mono fun e w' h => ⟨h.1, h.2.symm⟩)))
      go_wp2_with fail
      refine (HB _ ((Kept.alloc Nob _ _).then (Kept.drewN Nob _ _))).out.mono ?_
      rintro e w1 ⟨rfl, hk⟩
      have HK := Lib.hid (((Kept.alloc Nob w _).then (Kept.drewN Nob _ _)).then hk)
      clear hk
      go_wp2_with fail
      refine (HC _).out.mono ?_
      rintro e w2 ⟨u, rfl, hu, hk⟩
      have HK2 := Lib.hid ((HK.out.then (Kept.alloc Nob _ _)).then hk)
      have HU := Lib.hid (hu.iff.congr HO.out)
      clear hk hu
      go_wp2_with fail
      go_ret
      exact ⟨_, rfl, HU.out, HK2.out⟩
    · have hb : ((l.length : Int) != 2) = true := by simp; omega
      have HN : Hid (¬ ObOk ⟨3, l⟩) := Lib.hid (by rw [ob3]; rintro ⟨p, q, rfl, _⟩; simp at hn)
      clear hn h HP
      go_enter Tryz.func64, Tryz.ntmps64
      go_wp2_with fail
      go_quiet ((go_at_call 88; exact Calls.quiet_of_same ((HV _).out.mono fun e w' h => ⟨h.1, h.2.symm⟩)))
      go_wp2_with fail
      go_ret
      exact ⟨_, rfl, NilIff.no HN.out _ _, (Kept.alloc Nob _ _).then (Kept.drewN Nob _ _)⟩
  clear HV
  by_cases k4 : k = 4
  · subst k4
    have HR := fun (wx : World) (kx : Kept Nob w wx) => Lib.hid (ring_check wx _ l F (HP.out.nob kx) hl)
    clear h
    go_enter Tryz.func64, Tryz.ntmps64
    go_wp2_with fail
    refine (HR _ (Kept.alloc Nob _ _)).out.mono ?_
    rintro e w2 ⟨u, rfl, hu, hk⟩
    have HK2 := Lib.hid ((Kept.alloc Nob w _).then hk)
    have HU := Lib.hid (hu.congr (ob4 l).symm)
    clear hk hu
    go_wp2_with fail
    go_ret
    exact ⟨_, rfl, HU.out, HK2.out⟩
  · have HN := Lib.hid (ob_no l k1 k2 k3 k4)
    have b1 : (k == 1) = false := beq_eq_false_iff_ne.2 k1
    have b2 : (k == 2) = false := beq_eq_false_iff_ne.2 k2
    have b3 : (k == 3) = false := beq_eq_false_iff_ne.2 k3
    have b4 : (k == 4) = false := beq_eq_false_iff_ne.2 k4
    clear k1 k2 k3 k4 h
    go_enter Tryz.func64, Tryz.ntmps64
    go_wp2_with fail
    go_ret
    exact ⟨_, rfl, NilIff.no HN.out _ _, Kept.alloc Nob _ _⟩

theorem rel_wrap_nil (w : World) (op : ByteArray) (k : Int) : Calls Tryz.prog 63 #[.string op, .int .i64 k, .nilIface] w fun e w' => e = .returned .nilIface ∧ w = w' := by
  go_enter Tryz.func63, Tryz.ntmps63
  go_wp2_with fail
  go_ret
  exact ⟨rfl, rfl⟩
theorem rel_wrap_err (w : World) (op : ByteArray) (k : Int) (t : TypeId) (u : Value) : Calls Tryz.prog 63 #[.string op, .int .i64 k, .iface t u] w fun e w' => ∃ g, e = .returned (.iface 94 (.pointer (some ⟨g, 0, none⟩))) ∧ Kept Nob w w' := by
  go_enter Tryz.func63, Tryz.ntmps63
  go_wp2_with fail
  go_ret
  exact ⟨_, rfl, Kept.alloc _ _ _⟩
theorem rel_wrap (w : World) (op : ByteArray) (k : Int) (v : Value) (p : Prop) (h : NilIff p v) : Calls Tryz.prog 63 #[.string op, .int .i64 k, v] w (RetChk w p) := by
  rcases h with ⟨hp, rfl⟩ | ⟨hp, t, u, rfl⟩
  · refine (rel_wrap_nil w op k).mono ?_
    rintro e w' ⟨rfl, rfl⟩
    exact ⟨_, rfl, NilIff.yes hp, Kept.refl _ _⟩
  · refine (rel_wrap_err w op k t u).mono ?_
    rintro e w' ⟨g, rfl, hk⟩
    exact ⟨_, rfl, NilIff.no hp _ _, hk⟩
set_option maxHeartbeats 1000000 in
theorem rel_Check (w : World) (k : Int) (v : Value) (l : List Pt) (F : Nat → Prop) (h : PtsAt w v l F) (hl : l.length < 1000000000) :
    Calls Tryz.prog 32 #[.agg #[.int .i64 k, v]] w (RetChk w (ObOk ⟨k, l⟩)) := by
  obtain ⟨a, cap, rfl⟩ := h.shape
  have HC := fun (wx : World) (kx : Kept Nob w wx) => Lib.hid (rel_check wx k _ l F (h.nob kx) hl)
  have HW := fun (wx : World) (u : Value) (hu : NilIff (ObOk ⟨k, l⟩) u) => Lib.hid (rel_wrap wx ⟨#[111, 98, 106, 101, 99, 116]⟩ k u _ hu)
  clear h
  generalize ObOk ⟨k, l⟩ = p at *
  go_enter Tryz.func32, Tryz.ntmps32
  go_wp2_with fail
  go_region_held3 (fun w' => w'.cell? ⟨w.heap.size, 0, none⟩ = some (.int .i64 k) ∧ w'.cell? ⟨w.heap.size, 1, none⟩ = some (.slice a l.length cap)) ((go_keep; done))
    ((first
      | (go_at_call 64; (with_reducible refine (HC _ ((Kept.alloc Nob w _).then (Kept.drew Nob _))).out.mono ?_); rintro e w1 ⟨u, rfl, hu, hk⟩; have HU := Lib.hid hu; have HK := Lib.hid (((Kept.alloc Nob w _).then (Kept.drew Nob _)).then hk); have q0 : w1.cell? ⟨w.heap.size, 0, none⟩ = some (.int .i64 k) := (hk.cell (p := ⟨w.heap.size, 0, none⟩) (by simp) (fun f => f)).trans (by simp); have q1 : w1.cell? ⟨w.heap.size, 1, none⟩ = some (.slice a l.length cap) := (hk.cell (p := ⟨w.heap.size, 1, none⟩) (by simp) (fun f => f)).trans (by simp); clear hu hk)
      | (go_at_call 63; (with_reducible refine (HW _ _ HU.out).out.mono ?_); rintro e w2 ⟨u2, rfl, hu, hk⟩; have HU2 := Lib.hid hu; have HK2 := Lib.hid (HK.out.then hk); have q2 : w2.cell? ⟨w.heap.size, 0, none⟩ = some (.int .i64 k) := (hk.cell (p := ⟨w.heap.size, 0, none⟩) (cell_lt q0) (fun f => f)).trans q0; have q3 : w2.cell? ⟨w.heap.size, 1, none⟩ = some (.slice a l.length cap) := (hk.cell (p := ⟨w.heap.size, 1, none⟩) (cell_lt q1) (fun f => f)).trans q1; clear hu hk)))
  go_wp2_with fail
  go_ret
  exact ⟨_, rfl, HU2.out, HK2.out⟩

/-- a query: kind, box, ring -/
structure Qr where
  kind : Int
  box : Bx
  ring : List Pt
def QrOk (q : Qr) : Prop :=
  ((q.kind = 1 ∨ q.kind = 2) ∧ BxOk q.box) ∨ (q.kind = 3 ∧ ok q.box.lo = true) ∨ (q.kind = 4 ∧ RingOk q.ring)
theorem qr12 {q : Qr} (h : q.kind = 1 ∨ q.kind = 2) : QrOk q ↔ BxOk q.box := by
  unfold QrOk
  constructor
  · rintro (⟨_, h2⟩ | ⟨h2, _⟩ | ⟨h2, _⟩)
    · exact h2
    · omega
    · omega
  · intro h2; exact .inl ⟨h, h2⟩
theorem qr3 {q : Qr} (h : q.kind = 3) : QrOk q ↔ ok q.box.lo = true := by
  unfold QrOk
  constructor
  · rintro (⟨h2, _⟩ | ⟨_, h2⟩ | ⟨h2, _⟩)
    · omega
    · exact h2
    · omega
  · intro h2; exact .inr (.inl ⟨h, h2⟩)
theorem qr4 {q : Qr} (h : q.kind = 4) : QrOk q ↔ RingOk q.ring := by
  unfold QrOk
  constructor
  · rintro (⟨h2, _⟩ | ⟨h2, _⟩ | ⟨_, h2⟩)
    · omega
    · omega
    · exact h2
  · intro h2; exact .inr (.inr ⟨h, h2⟩)
theorem qr_no {q : Qr} (h1 : q.kind ≠ 1) (h2 : q.kind ≠ 2) (h3 : q.kind ≠ 3) (h4 : q.kind ≠ 4) : ¬ QrOk q := by
  rintro (⟨h, _⟩ | ⟨h, _⟩ | ⟨h, _⟩)
  · omega
  · omega
  · omega
/-- the value of a query -/
def qrV (k x1 y1 x2 y2 : Int) (v : Value) : Value := .agg #[.int .i64 k, .int .i64 x1, .int .i64 y1, .int .i64 x2, .int .i64 y2, v]
set_option maxRecDepth 100000 in
set_option maxHeartbeats 4000000 in
theorem rel_query (w : World) (k x1 y1 x2 y2 : Int) (v : Value) (l : List Pt) (F : Nat → Prop) (h : PtsAt w v l F) (hl : l.length < 1000000000) :
    Calls Tryz.prog 66 #[.agg #[.int .i64 k, .int .i64 x1, .int .i64 y1, .int .i64 x2, .int .i64 y2, v]] w (RetChk w (QrOk ⟨k, ⟨(x1, y1), (x2, y2)⟩, l⟩)) := by
  obtain ⟨a, cap, rfl⟩ := h.shape
  have HC := fun wx => Lib.hid (checkBox_any wx x1 y1 x2 y2)
  have HR := fun (wx : World) (kx : Kept Nob w wx) => Lib.hid (ring_check wx _ l F (h.nob kx) hl)
  have HP := fun wx : World => Lib.hid (checkPoint_any wx x1 y1 (ok (x1, y1)) rfl)
  clear h
  have HB : Hid (bxOk x1 y1 x2 y2 = true ↔ BxOk ⟨(x1, y1), (x2, y2)⟩) := Lib.hid (bxOk_iff (x1, y1) (x2, y2))
  by_cases k12 : k = 1 ∨ k = 2
  · have HQ : Hid (bxOk x1 y1 x2 y2 = true ↔ QrOk ⟨k, ⟨(x1, y1), (x2, y2)⟩, l⟩) := Lib.hid (HB.out.trans (qr12 (q := ⟨k, ⟨(x1, y1), (x2, y2)⟩, l⟩) k12).symm)
    rcases k12 with rfl | rfl
    · go_enter Tryz.func66, Tryz.ntmps66
      go_wp2_with fail
      refine (HC _).out.mono ?_
      rintro e w2 ⟨u, rfl, hu, hk⟩
      have HK2 := Lib.hid ((Kept.alloc Nob _ _).then hk)
      have HU := Lib.hid (hu.iff.congr HQ.out)
      clear hk hu
      go_wp2_with fail
      go_ret
      exact ⟨_, rfl, HU.out, HK2.out⟩
    · go_enter Tryz.func66, Tryz.ntmps66
      go_wp2_with fail
      refine (HC _).out.mono ?_
      rintro e w2 ⟨u, rfl, hu, hk⟩
      have HK2 := Lib.hid ((Kept.alloc Nob _ _).then hk)
      have HU := Lib.hid (hu.iff.congr HQ.out)
      clear hk hu
      go_wp2_with fail
      go_ret
      exact ⟨_, rfl, HU.out, HK2.out⟩
  by_cases k3 : k = 3
  · subst k3
    have HQ : Hid (ok (x1, y1) = true ↔ QrOk ⟨3, ⟨(x1, y1), (x2, y2)⟩, l⟩) := Lib.hid (qr3 (q := ⟨3, ⟨(x1, y1), (x2, y2)⟩, l⟩) rfl).symm
    clear k12
    generalize ok (x1, y1) = r at *
    cases r with
    | false =>
      simp only [Bool.false_eq_true, if_false] at HP
      go_enter Tryz.func66, Tryz.ntmps66
      go_wp2_with fail
      refine (HP _).out.mono ?_
      rintro e w2 ⟨rfl, hk⟩
      have HK2 := Lib.hid ((Kept.alloc Nob _ _).then hk)
      clear hk
      go_wp2_with fail
      go_ret
      exact ⟨_, rfl, NilIff.no (fun h => absurd (HQ.out.2 h) (by simp)) _ _, HK2.out⟩
    | true =>
      simp only [if_true] at HP
      go_enter Tryz.func66, Tryz.ntmps66
      go_wp2_with fail
      refine (HP _).out.mono ?_
      rintro e w2 ⟨rfl, hk⟩
      have HK2 := Lib.hid ((Kept.alloc Nob _ _).then hk)
      clear hk
      go_wp2_with fail
      go_ret
      exact ⟨_, rfl, NilIff.yes (HQ.out.1 (by simp)), HK2.out⟩
  by_cases k4 : k = 4
  · subst k4
    have HQ := Lib.hid (qr4 (q := ⟨4, ⟨(x1, y1), (x2, y2)⟩, l⟩) rfl).symm
    clear k12 k3
    go_enter Tryz.func66, Tryz.ntmps66
    go_wp2_with fail
    refine (HR _ (Kept.alloc Nob _ _)).out.mono ?_
    rintro e w2 ⟨u, rfl, hu, hk⟩
    have HK2 := Lib.hid ((Kept.alloc Nob w _).then hk)
    have HU := Lib.hid (hu.congr HQ.out)
    clear hk hu
    go_wp2_with fail
    go_ret
    exact ⟨_, rfl, HU.out, HK2.out⟩
  · have HN := Lib.hid (qr_no (q := ⟨k, ⟨(x1, y1), (x2, y2)⟩, l⟩) (fun h => k12 (.inl h)) (fun h => k12 (.inr h)) k3 k4)
    have b1 : (k == 1) = false := beq_eq_false_iff_ne.2 (fun h => k12 (.inl h))
    have b2 : (k == 2) = false := beq_eq_false_iff_ne.2 (fun h => k12 (.inr h))
    have b3 : (k == 3) = false := beq_eq_false_iff_ne.2 k3
    have b4 : (k == 4) = false := beq_eq_false_iff_ne.2 k4
    clear k12 k3 k4
    go_enter Tryz.func66, Tryz.ntmps66
    go_wp2_with fail
    go_ret
    exact ⟨_, rfl, NilIff.no HN.out _ _, Kept.alloc Nob _ _⟩
set_option maxHeartbeats 1000000 in
theorem rel_CheckQuery (w : World) (k x1 y1 x2 y2 : Int) (v : Value) (l : List Pt) (F : Nat → Prop) (h : PtsAt w v l F) (hl : l.length < 1000000000) :
    Calls Tryz.prog 35 #[.agg #[.int .i64 k, .int .i64 x1, .int .i64 y1, .int .i64 x2, .int .i64 y2, v]] w (RetChk w (QrOk ⟨k, ⟨(x1, y1), (x2, y2)⟩, l⟩)) := by
  obtain ⟨a, cap, rfl⟩ := h.shape
  have HC := fun (wx : World) (kx : Kept Nob w wx) => Lib.hid (rel_query wx k x1 y1 x2 y2 _ l F (h.nob kx) hl)
  have HW := fun (wx : World) (u : Value) (hu : NilIff (QrOk ⟨k, ⟨(x1, y1), (x2, y2)⟩, l⟩) u) => Lib.hid (rel_wrap wx ⟨#[113, 117, 101, 114, 121]⟩ k u _ hu)
  clear h
  generalize QrOk ⟨k, ⟨(x1, y1), (x2, y2)⟩, l⟩ = p at *
  go_enter Tryz.func35, Tryz.ntmps35
  go_wp2_with fail
  go_region_held3 (fun w' => w'.cell? ⟨w.heap.size, 0, none⟩ = some (.int .i64 k) ∧ w'.cell? ⟨w.heap.size, 1, none⟩ = some (.int .i64 x1) ∧ w'.cell? ⟨w.heap.size, 2, none⟩ = some (.int .i64 y1) ∧ w'.cell? ⟨w.heap.size, 3, none⟩ = some (.int .i64 x2) ∧ w'.cell? ⟨w.heap.size, 4, none⟩ = some (.int .i64 y2) ∧ w'.cell? ⟨w.heap.size, 5, none⟩ = some (.slice a l.length cap)) ((go_keep; done))
    ((first
      | (go_at_call 66; (with_reducible refine (HC _ ((Kept.alloc Nob w _).then (Kept.drew Nob _))).out.mono ?_); rintro e w1 ⟨u, rfl, hu, hk⟩; have HU := Lib.hid hu; have HK := Lib.hid (((Kept.alloc Nob w _).then (Kept.drew Nob _)).then hk); have q0 : w1.cell? ⟨w.heap.size, 0, none⟩ = some (.int .i64 k) := (hk.cell (p := ⟨w.heap.size, 0, none⟩) (by simp) (fun f => f)).trans (by simp); have q1 : w1.cell? ⟨w.heap.size, 1, none⟩ = some (.int .i64 x1) := (hk.cell (p := ⟨w.heap.size, 1, none⟩) (by simp) (fun f => f)).trans (by simp); have q2 : w1.cell? ⟨w.heap.size, 2, none⟩ = some (.int .i64 y1) := (hk.cell (p := ⟨w.heap.size, 2, none⟩) (by simp) (fun f => f)).trans (by simp); have q3 : w1.cell? ⟨w.heap.size, 3, none⟩ = some (.int .i64 x2) := (hk.cell (p := ⟨w.heap.size, 3, none⟩) (by simp) (fun f => f)).trans (by simp); have q4 : w1.cell? ⟨w.heap.size, 4, none⟩ = some (.int .i64 y2) := (hk.cell (p := ⟨w.heap.size, 4, none⟩) (by simp) (fun f => f)).trans (by simp); have q5 : w1.cell? ⟨w.heap.size, 5, none⟩ = some (.slice a l.length cap) := (hk.cell (p := ⟨w.heap.size, 5, none⟩) (by simp) (fun f => f)).trans (by simp); clear hu hk)
      | (go_at_call 63; (with_reducible refine (HW _ _ HU.out).out.mono ?_); rintro e w2 ⟨u2, rfl, hu, hk⟩; have HU2 := Lib.hid hu; have HK2 := Lib.hid (HK.out.then hk); have r0 : w2.cell? ⟨w.heap.size, 0, none⟩ = some (.int .i64 k) := (hk.cell (p := ⟨w.heap.size, 0, none⟩) (cell_lt q0) (fun f => f)).trans q0; have r1 : w2.cell? ⟨w.heap.size, 1, none⟩ = some (.int .i64 x1) := (hk.cell (p := ⟨w.heap.size, 1, none⟩) (cell_lt q1) (fun f => f)).trans q1; have r2 : w2.cell? ⟨w.heap.size, 2, none⟩ = some (.int .i64 y1) := (hk.cell (p := ⟨w.heap.size, 2, none⟩) (cell_lt q2) (fun f => f)).trans q2; have r3 : w2.cell? ⟨w.heap.size, 3, none⟩ = some (.int .i64 x2) := (hk.cell (p := ⟨w.heap.size, 3, none⟩) (cell_lt q3) (fun f => f)).trans q3; have r4 : w2.cell? ⟨w.heap.size, 4, none⟩ = some (.int .i64 y2) := (hk.cell (p := ⟨w.heap.size, 4, none⟩) (cell_lt q4) (fun f => f)).trans q4; have r5 : w2.cell? ⟨w.heap.size, 5, none⟩ = some (.slice a l.length cap) := (hk.cell (p := ⟨w.heap.size, 5, none⟩) (cell_lt q5) (fun f => f)).trans q5; clear hu hk)))
  go_wp2_with fail
  go_ret
  exact ⟨_, rfl, HU2.out, HK2.out⟩
end Go.Proofs.YthjiobmglebmdaaGreatDoor
