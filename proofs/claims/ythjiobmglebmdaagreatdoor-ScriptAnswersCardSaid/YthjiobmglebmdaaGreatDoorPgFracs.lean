/- Fractions in lowest terms: the program's and the document's. Printed by gen_rat.py. A fraction, written: the program's and the document's. Printed by gen_txtd.py. A fraction, written: the document's. Printed by gen_txtd.py. -/
import Derived.Test.YthjiobmglebmdaaGreatDoorPgWides
import Derived.Deep.RegionWith
namespace Go.Proofs.YthjiobmglebmdaaGreatDoor
open Go.RowKit Go.Sort

def dV (N d : Nat) : Value := .agg #[.int .u64 (N / 18446744073709551616 : Nat), .int .u64 (N % 18446744073709551616 : Nat), .int .u64 (d : Nat)]
set_option maxRecDepth 100000 in
set_option maxHeartbeats 4000000 in
theorem ratio_common (w : World) (a b : Nat) (ha : a < 18446744073709551616) (hb : b < 18446744073709551616) :
    Calls Tryz.prog 82 #[.int .u64 a, .int .u64 b] w fun e w' => e = .returned (.int .u64 (Nat.gcd a b : Nat)) ∧ Kept Nob w w' := by
  go_enter Tryz.func82, Tryz.ntmps82
  go_wp2_with fail
  go_loopw [0, 1] (fun x y wr => ∃ c d : Nat, x = .int .u64 c ∧ y = .int .u64 d ∧ Nat.gcd c d = Nat.gcd a b ∧ c < 18446744073709551616 ∧ d < 18446744073709551616 ∧ Kept Nob w wr) (fun _ y _ => (intOf y).toNat)
  case atStart => exact ⟨a, b, rfl, rfl, rfl, ha, hb, Kept.refl _ _⟩
  case round =>
    obtain ⟨c, d, rfl, rfl, hg, hc, hd, hk⟩ := hrel
    have HG := Lib.hid hg
    have HK := Lib.hid hk
    clear hg hk
    by_cases h0 : d = 0
    · subst h0
      go_wp2_with fail
      go_ret
      exact ⟨by rw [← HG.out, Nat.gcd_zero_right]; rfl, HK.out⟩
    · have h0' : ((d : Int) != 0) = true := by simpa using h0
      have HM := Lib.hid (show (c : Int) % (d : Int) = ((c % d : Nat) : Int) by simp)
      have hml : c % d < d := Nat.mod_lt _ (by omega)
      go_wp2_with fail
      go_quiet (fail)
      rw [HM.out]
      go_wp2_with fail
      refine ⟨⟨d, c % d, rfl, rfl, ?_, hd, by omega, HK.out.then (Kept.drewN _ _ _)⟩, by simp only [intOf]; omega⟩
      rw [Nat.gcd_comm, ← Nat.gcd_rec, Nat.gcd_comm, HG.out]
set_option maxRecDepth 100000 in
set_option maxHeartbeats 4000000 in
theorem ref_gcd (w : World) (a b : Nat) (ha : a < 18446744073709551616) (hb : b < 18446744073709551616) :
    Calls Tryz.prog 87 #[.int .u64 a, .int .u64 b] w fun e w' => e = .returned (.int .u64 (Nat.gcd a b : Nat)) ∧ Kept Nob w w' := by
  go_enter Tryz.func87, Tryz.ntmps87
  go_wp2_with fail
  go_loopw [0, 1] (fun x y wr => ∃ c d : Nat, x = .int .u64 c ∧ y = .int .u64 d ∧ Nat.gcd c d = Nat.gcd a b ∧ c < 18446744073709551616 ∧ d < 18446744073709551616 ∧ Kept Nob w wr) (fun _ y _ => (intOf y).toNat)
  case atStart => exact ⟨a, b, rfl, rfl, rfl, ha, hb, Kept.refl _ _⟩
  case round =>
    obtain ⟨c, d, rfl, rfl, hg, hc, hd, hk⟩ := hrel
    have HG := Lib.hid hg
    have HK := Lib.hid hk
    clear hg hk
    by_cases h0 : d = 0
    · subst h0
      go_wp2_with fail
      go_ret
      exact ⟨by rw [← HG.out, Nat.gcd_zero_right]; rfl, HK.out⟩
    · have h0' : (0 : Int) < (d : Int) := by omega
      have HM := Lib.hid (show (c : Int) % (d : Int) = ((c % d : Nat) : Int) by simp)
      have hml : c % d < d := Nat.mod_lt _ (by omega)
      go_wp2_with fail
      go_quiet (fail)
      rw [HM.out]
      go_wp2_with fail
      refine ⟨⟨d, c % d, rfl, rfl, ?_, hd, by omega, HK.out.then (Kept.drewN _ _ _)⟩, by simp only [intOf]; omega⟩
      rw [Nat.gcd_comm, ← Nat.gcd_rec, Nat.gcd_comm, HG.out]
set_option maxRecDepth 100000 in
set_option maxHeartbeats 4000000 in
theorem ratio_by (w : World) (hi lo d : Nat) (hh : hi < 18446744073709551616) (hl : lo < 18446744073709551616) (hd : d < 18446744073709551616) (h0 : 0 < d) :
    Calls Tryz.prog 81 #[.agg #[.int .u64 hi, .int .u64 lo], .int .u64 d] w fun e w' => e = .returned (.tuple #[uV ((hi * 18446744073709551616 + lo) / d), .int .u64 ((hi * 18446744073709551616 + lo) % d : Nat)]) ∧ Kept Nob w w' := by
  have hr : hi % d < d := Nat.mod_lt _ h0
  obtain ⟨q, hq⟩ : ∃ k, hi / d = k := ⟨_, rfl⟩
  obtain ⟨r, hr'⟩ : ∃ k, hi % d = k := ⟨_, rfl⟩
  have HDv := fun (wx : World) => Lib.hid (div64_ok wx r lo d (by omega) hl hd)
  obtain ⟨m, hm⟩ : ∃ k, (r * 18446744073709551616 + lo) / d = k := ⟨_, rfl⟩
  have hml : m < 18446744073709551616 := by
    rw [← hm, Nat.div_lt_iff_lt_mul h0]
    have : (r + 1) * 18446744073709551616 ≤ d * 18446744073709551616 := Nat.mul_le_mul_right _ (by omega)
    rw [Nat.mul_comm 18446744073709551616 d]
    omega
  have hql : q < 18446744073709551616 := by rw [← hq]; exact Nat.lt_of_le_of_lt (Nat.div_le_self _ _) hh
  have htwo := Kn.two' (d0 := lo) hi 18446744073709551616 h0
  rw [hq, hr', hm] at htwo
  have HOut : Hid (uV ((hi * 18446744073709551616 + lo) / d) = .agg #[.int .u64 (q : Nat), .int .u64 (m : Nat)]) := Lib.hid (by rw [← htwo.1, uV_parts q m hml])
  rw [hm, htwo.2] at HDv
  have EQ := Lib.hid (show IntKind.u64.wrap ((hi : Int) / (d : Int)) = (q : Int) by rw [show ((hi : Int) / (d : Int)) = ((hi / d : Nat) : Int) from by simp, hq, wrap_small hql])
  have ER := Lib.hid (show (hi : Int).tmod (d : Int) = (r : Int) by rw [← hr', Int.tmod_eq_emod_of_nonneg (by omega)]; simp)
  have hd0 : ¬ d = 0 := by omega
  clear htwo hq hr' hm hr
  go_enter Tryz.func81, Tryz.ntmps81
  go_wp2_with fail
  rw [EQ.out]
  have HB := fun (W : World) (kx : Kept Nob ((w.alloc (.cells #[.int .u64 hi, .int .u64 lo] 111)).alloc (.cells #[.int .u64 0, .int .u64 0] 111)) W) => Lib.hid (new1 ((Kept.alloc Nob (w.alloc (.cells #[.int .u64 hi, .int .u64 lo] 111)) _).then kx))
  refine wp_region_held_drew (S := (fun W => Kept Nob ((w.alloc (.cells #[.int .u64 hi, .int .u64 lo] 111)).alloc (.cells #[.int .u64 0, .int .u64 0] 111)) W)) (by kernel_rfl) ?_ (fun hHeld => ?_)
  · first | exact Kept.refl _ _ | exact Kept.drew _ _
  refine take_to (i := 0) (oi := _) (v := ?_) (some 14) rfl (by kernel_rfl) (by kernel_rfl) (by kernel_rfl) (by kernel_rfl) (fun _ _ _ h => h) (Or.inl ⟨by kernel_rfl, ?_⟩) (by assumption) ?_
  case refine_2 => (intro w hSw; (try dsimp only at hSw); go_simp; try with_reducible rfl)
  try simp only [Act.put, List.setIfInBounds_toArray, List.set_cons_zero, List.set_cons_succ]
  refine take_to (i := 1) (oi := _) (v := ?_) (some 15) rfl (by kernel_rfl) (by kernel_rfl) (by kernel_rfl) (by kernel_rfl) (fun _ _ _ h => h) (Or.inl ⟨by kernel_rfl, ?_⟩) (by assumption) ?_
  case refine_2 => (intro w hSw; (try dsimp only at hSw); have b0 := (HB _ hSw).out; have cc0 := cell_at b0 0 _ rfl; have cc1 := cell_at b0 1 _ rfl; clear b0; go_simp; try with_reducible rfl)
  try simp only [Act.put, List.setIfInBounds_toArray, List.set_cons_zero, List.set_cons_succ]
  refine take_to (i := 2) (oi := _) (v := ?_) (some 16) rfl (by kernel_rfl) (by kernel_rfl) (by kernel_rfl) (by kernel_rfl) (fun _ _ _ h => h) (Or.inl ⟨by kernel_rfl, ?_⟩) (by assumption) ?_
  case refine_2 => (intro w hSw; (try dsimp only at hSw); go_simp; try with_reducible rfl)
  try simp only [Act.put, List.setIfInBounds_toArray, List.set_cons_zero, List.set_cons_succ]
  refine take_to (i := 3) (oi := _) (v := ?_) (some 17) rfl (by kernel_rfl) (by kernel_rfl) (by kernel_rfl) (by kernel_rfl) (fun _ _ _ h => h) (Or.inl ⟨by kernel_rfl, ?_⟩) (by assumption) ?_
  case refine_2 => (intro w hSw; (try dsimp only at hSw); go_simp; try with_reducible rfl)
  try simp only [Act.put, List.setIfInBounds_toArray, List.set_cons_zero, List.set_cons_succ]
  refine take_to (i := 4) (oi := _) (v := ?_) (some 18) rfl (by kernel_rfl) (by kernel_rfl) (by kernel_rfl) (by kernel_rfl) (fun _ _ _ h => h) (Or.inl ⟨by kernel_rfl, ?_⟩) (by assumption) ?_
  case refine_2 => (intro w hSw; (try dsimp only at hSw); go_simp; try with_reducible rfl)
  try simp only [Act.put, List.setIfInBounds_toArray, List.set_cons_zero, List.set_cons_succ]
  refine take_to (i := 5) (oi := _) (v := ?_) (some 19) rfl (by kernel_rfl) (by kernel_rfl) (by kernel_rfl) (by kernel_rfl) (fun _ _ _ h => h) (Or.inl ⟨by kernel_rfl, ?_⟩) (by assumption) ?_
  case refine_2 => (intro w hSw; (try dsimp only at hSw); have b0 := (HB _ hSw).out; have cc0 := cell_at b0 0 _ rfl; have cc1 := cell_at b0 1 _ rfl; clear b0; go_simp; try with_reducible rfl)
  try simp only [Act.put, List.setIfInBounds_toArray, List.set_cons_zero, List.set_cons_succ]
  refine take_to (i := 6) (oi := _) (v := ?_) (some 20) rfl (by kernel_rfl) (by kernel_rfl) (by kernel_rfl) (by kernel_rfl) (fun _ _ _ h => h) (Or.inl ⟨by kernel_rfl, ?_⟩) (by assumption) ?_
  case refine_2 => (intro w hSw; (try dsimp only at hSw); go_simp; try with_reducible rfl)
  try simp only [Act.put, List.setIfInBounds_toArray, List.set_cons_zero, List.set_cons_succ]
  refine wpAnyH_ready (rs := [7]) (by kernel_rfl) (by simp) ?_
  refine AllReadyH.cons (o := _) rfl (fun K hK => ?_) AllReadyH.nil
  go_simp
  rw [ER.out]
  refine (HDv _).out.mono ?_
  rintro e z1 ⟨rfl, hz1⟩
  try go_wp2_with fail
  refine hK.out _ _ (hHeld.then hz1) (fun hHeld => ?_)
  clear hK K
  try simp only [Act.put, List.setIfInBounds_toArray, List.set_cons_zero, List.set_cons_succ]
  refine take_to (i := 8) (oi := _) (v := ?_) (some 13) rfl (by kernel_rfl) (by kernel_rfl) (by kernel_rfl) (by kernel_rfl) (fun _ _ _ h => h) (Or.inl ⟨by kernel_rfl, ?_⟩) (by assumption) ?_
  case refine_2 => (intro w hSw; (try dsimp only at hSw); go_simp; try with_reducible rfl)
  try simp only [Act.put, List.setIfInBounds_toArray, List.set_cons_zero, List.set_cons_succ]
  refine take_to (i := 9) (oi := _) (v := ?_) (some 22) rfl (by kernel_rfl) (by kernel_rfl) (by kernel_rfl) (by kernel_rfl) (fun _ _ _ h => h) (Or.inl ⟨by kernel_rfl, ?_⟩) (by assumption) ?_
  case refine_2 => (intro w hSw; (try dsimp only at hSw); go_simp; try with_reducible rfl)
  try simp only [Act.put, List.setIfInBounds_toArray, List.set_cons_zero, List.set_cons_succ]
  refine take_to (i := 10) (oi := _) (v := ?_) (some 23) rfl (by kernel_rfl) (by kernel_rfl) (by kernel_rfl) (by kernel_rfl) (fun _ _ _ h => h) (Or.inl ⟨by kernel_rfl, ?_⟩) (by assumption) ?_
  case refine_2 => (intro w hSw; (try dsimp only at hSw); go_simp; try with_reducible rfl)
  try simp only [Act.put, List.setIfInBounds_toArray, List.set_cons_zero, List.set_cons_succ]
  refine take_to (i := 11) (oi := _) (v := ?_) (some 7) rfl (by kernel_rfl) (by kernel_rfl) (by kernel_rfl) (by kernel_rfl) (fun _ _ _ h => h) (Or.inl ⟨by kernel_rfl, ?_⟩) (by assumption) ?_
  case refine_2 => (intro w hSw; (try dsimp only at hSw); go_simp; try with_reducible rfl)
  try simp only [Act.put, List.setIfInBounds_toArray, List.set_cons_zero, List.set_cons_succ]
  refine take_to (i := 12) (oi := _) (v := ?_) (some 8) rfl (by kernel_rfl) (by kernel_rfl) (by kernel_rfl) (by kernel_rfl) (fun _ _ _ h => h) (Or.inl ⟨by kernel_rfl, ?_⟩) (by assumption) ?_
  case refine_2 => (intro w hSw; (try dsimp only at hSw); go_simp; try with_reducible rfl)
  try simp only [Act.put, List.setIfInBounds_toArray, List.set_cons_zero, List.set_cons_succ]
  refine wpAnyH_done (by kernel_rfl) ?_ _
  have hb1 := new1 hHeld
  simp only [World.alloc, Array.size_push] at hb1
  have HB1 := Lib.hid hb1
  clear hb1
  have HKf := Lib.hid (((Kept.alloc Nob w (.cells #[.int .u64 hi, .int .u64 lo] 111)).then (Kept.alloc Nob _ (.cells #[.int .u64 0, .int .u64 0] 111))).then hHeld)
  have c0 := cell_at HB1.out 0 _ rfl
  have c1 := cell_at HB1.out 1 _ rfl
  have f0 := frozen_at HB1.out 0
  have f1 := frozen_at HB1.out 1
  clear hHeld
  go_wp2_with fail
  exact bodyPost_cell2 (p := 4) (u := 5) (ty := 111) (g := w.heap.size + 1) (by kernel_rfl) rfl (Go.heap_setCell_same _ _ 1 _ 111 _ (Go.heap_setCell_same _ _ 0 _ 111 _ HB1.out)) Tryz.underlying111 rfl (by kernel_rfl) rfl ⟨by rw [HOut.out]; simp, HKf.out.from (Nat.le_refl _) (((kept1 _ (w.heap.size + 1) 0 _).trans' (kept1 _ (w.heap.size + 1) 1 _)).mono fun j _ (h : j = w.heap.size + 1) => show w.heap.size ≤ j by omega)⟩
set_option maxRecDepth 100000 in
set_option maxHeartbeats 4000000 in
theorem ratio_lowest (w : World) (hi lo d : Nat) (hh : hi < 18446744073709551616) (hl : lo < 18446744073709551616) (hd : d < 18446744073709551616) (h0 : 0 < d) :
    Calls Tryz.prog 55 #[.agg #[.int .u64 hi, .int .u64 lo], .int .u64 d] w fun e w' => ∃ N g, N = hi * 18446744073709551616 + lo ∧ g = Nat.gcd d (N % d) ∧ e = .returned (dV (N / g) (d / g)) ∧ Kept Nob w w' := by
  obtain ⟨N, hN⟩ : ∃ N, hi * 18446744073709551616 + lo = N := ⟨_, rfl⟩
  obtain ⟨g, hg⟩ : ∃ g, Nat.gcd d (N % d) = g := ⟨_, rfl⟩
  have hNl : N < 340282366920938463463374607431768211456 := by omega
  have hg0 : 0 < g := by rw [← hg]; exact Nat.gcd_pos_of_pos_left _ h0
  have hgd : g ≤ d := by rw [← hg]; exact Nat.gcd_le_left _ h0
  have hml : N % d < d := Nat.mod_lt _ h0
  have HB1 := fun (wx : World) => Lib.hid (ratio_by wx hi lo d hh hl hd h0)
  have HC := fun (wx : World) => Lib.hid (ratio_common wx d (N % d) hd (by omega))
  have HB2 := fun (wx : World) => Lib.hid (ratio_by wx hi lo g hh hl (by omega) hg0)
  rw [hN] at HB1 HB2
  rw [hg] at HC
  have hxl : N / g < 340282366920938463463374607431768211456 := Nat.lt_of_le_of_lt (Nat.div_le_self _ _) hNl
  obtain ⟨x, hx⟩ : ∃ x, N / g = x := ⟨_, rfl⟩
  obtain ⟨y, hy⟩ : ∃ y, N / d = y := ⟨_, rfl⟩
  rw [hx] at HB2 hxl
  rw [hy] at HB1
  obtain ⟨xh, hxh⟩ : ∃ k, x / 18446744073709551616 = k := ⟨_, rfl⟩
  obtain ⟨xq, hxq⟩ : ∃ k, x % 18446744073709551616 = k := ⟨_, rfl⟩
  unfold uV at HB1 HB2
  rw [hxh, hxq] at HB2
  have HF : Hid (dV (N / g) (d / g) = .agg #[.int .u64 xh, .int .u64 xq, .int .u64 (d / g : Nat)]) := Lib.hid (by unfold dV; rw [hx, hxh, hxq])
  have HE := Lib.hid (show IntKind.u64.wrap ((d : Int) / (g : Int)) = ((d / g : Nat) : Int) by rw [show ((d : Int) / (g : Int)) = ((d / g : Nat) : Int) from by simp, wrap_small (Nat.lt_of_le_of_lt (Nat.div_le_self _ _) hd)])
  have HN := Lib.hid hN
  have HG := Lib.hid hg
  have hgz : ¬ g = 0 := by omega
  clear hN hg hml hgd hx hy hxh hxq hxl hNl
  generalize hm : N % d = m at *
  have HMm := Lib.hid hm
  clear hm
  generalize y / 18446744073709551616 = yh at *
  generalize y % 18446744073709551616 = yl at *
  go_enter Tryz.func55, Tryz.ntmps55
  go_wp2_with fail
  refine (HB1 _).out.mono ?_
  rintro e w1 ⟨rfl, hk1⟩
  have HA : Hid (w1.heap[w.heap.size]? = some (.cells #[.int .u64 hi, .int .u64 lo] 111 (0, 0))) := Lib.hid (new1 ((Kept.alloc Nob (w.alloc (.cells #[.int .u64 hi, .int .u64 lo] 111)) _).then hk1))
  have hr := new1 hk1
  simp only [World.alloc, Array.size_push] at hr
  have l0 : w.heap.size < w1.heap.size := (Array.getElem?_eq_some_iff.1 HA.out).1
  have l1 : w.heap.size + 1 < w1.heap.size := (Array.getElem?_eq_some_iff.1 hr).1
  have HR := Lib.hid hr
  have HK1 := Lib.hid (((Kept.alloc Nob w (.cells #[.int .u64 hi, .int .u64 lo] 111)).then (Kept.alloc Nob _ (.cells #[.int .u64 0, .int .u64 0, .int .u64 0] 71))).then hk1)
  clear hk1 hr
  go_wp2_with fail
  refine (HC _).out.mono ?_
  rintro e w2 ⟨rfl, hk2⟩
  have b0 : w2.heap[w.heap.size]? = some (.cells #[.int .u64 hi, .int .u64 lo] 111 (0, 0)) := (hk2.block _ (by simp; omega) (fun f => f)).trans ((Go.heap_alloc_old w1 _ l0).trans HA.out)
  have HR2 : Hid (w2.heap[w.heap.size + 1]? = some (.cells #[.int .u64 0, .int .u64 0, .int .u64 0] 71 (0, 0))) := Lib.hid ((hk2.block _ (by simp; omega) (fun f => f)).trans ((Go.heap_alloc_old w1 _ l1).trans HR.out))
  have c0 := cell_at b0 0 _ rfl
  have c1 := cell_at b0 1 _ rfl
  have HK2 := Lib.hid (HK1.out.then ((Kept.alloc Nob w1 _).then hk2))
  have l2 : w.heap.size + 1 < w2.heap.size := (Array.getElem?_eq_some_iff.1 HR2.out).1
  clear hk2 b0
  go_wp2_with fail
  refine (HB2 _).out.mono ?_
  rintro e w3 ⟨rfl, hk3⟩
  have hr := (hk3.block _ l2 (fun f => f)).trans HR2.out
  have l3 : w.heap.size + 1 < w3.heap.size := (Array.getElem?_eq_some_iff.1 hr).1
  have r0 := cell_at hr 0 _ rfl
  have r1 := cell_at hr 1 _ rfl
  have r2 := cell_at hr 2 _ rfl
  have f0 := frozen_at hr 0
  have f1 := frozen_at hr 1
  have f2 := frozen_at hr 2
  have HR3 := Lib.hid hr
  have HK3 := Lib.hid (HK2.out.then hk3)
  clear hr hk3 c0 c1
  go_wp2_with fail
  go_region
  go_wp2_with fail
  rw [HE.out]
  have hch := Go.heap_setCell_same _ _ 2 _ 71 (.int .u64 (d / g : Nat)) (Go.heap_setCell_same _ _ 1 _ 71 (.int .u64 xq) (Go.heap_setCell_same _ _ 0 _ 71 (.int .u64 xh) HR3.out))
  have hfin := (Go.heap_alloc_old _ (.cells #[.int .u64 xh, .int .u64 xq] 111) (Array.getElem?_eq_some_iff.1 hch).1).trans hch
  refine bodyPost_cellv (p := 4) (ty := 71) (g := w.heap.size + 1) (t := 71) (cs := #[.int .u64 xh, .int .u64 xq, .int .u64 (d / g : Nat)]) (by kernel_rfl) rfl hfin Tryz.underlying71 rfl (by kernel_rfl) rfl ⟨N, g, HN.out.symm, by rw [HMm.out]; exact HG.out.symm, by rw [HF.out], ?_⟩
  exact ((HK3.out.from (Nat.le_refl _) ((((kept1 _ (w.heap.size + 1) 0 _).trans' (kept1 _ (w.heap.size + 1) 1 _)).trans' (kept1 _ (w.heap.size + 1) 2 _)).mono fun j _ (h : j = w.heap.size + 1) => show w.heap.size ≤ j by omega)).then (Kept.alloc Nob _ _)).then (Kept.drew Nob _)
set_option maxRecDepth 100000 in
set_option maxHeartbeats 4000000 in
theorem ref_Lowest (w : World) (hi lo d : Nat) (hh : hi < 18446744073709551616) (hl : lo < 18446744073709551616) (hd : d < 18446744073709551616) (h0 : 0 < d) :
    Calls Tryz.prog 61 #[.agg #[.int .u64 hi, .int .u64 lo], .int .u64 d] w fun e w' => ∃ N g, N = hi * 18446744073709551616 + lo ∧ g = Nat.gcd d (N % d) ∧ e = .returned (dV (N / g) (d / g)) ∧ Kept Nob w w' := by
  obtain ⟨N, hN⟩ : ∃ N, hi * 18446744073709551616 + lo = N := ⟨_, rfl⟩
  obtain ⟨g, hg⟩ : ∃ g, Nat.gcd d (N % d) = g := ⟨_, rfl⟩
  have hNl : N < 340282366920938463463374607431768211456 := by omega
  have hg0 : 0 < g := by rw [← hg]; exact Nat.gcd_pos_of_pos_left _ h0
  have hgd : g ≤ d := by rw [← hg]; exact Nat.gcd_le_left _ h0
  have hml : N % d < d := Nat.mod_lt _ h0
  have HB1 := fun (wx : World) => Lib.hid (ref_Div wx hi lo d hh hl hd h0)
  have HC := fun (wx : World) => Lib.hid (ref_gcd wx d (N % d) hd (by omega))
  have HB2 := fun (wx : World) => Lib.hid (ref_Div wx hi lo g hh hl (by omega) hg0)
  rw [hN] at HB1 HB2
  rw [hg] at HC
  have hxl : N / g < 340282366920938463463374607431768211456 := Nat.lt_of_le_of_lt (Nat.div_le_self _ _) hNl
  obtain ⟨x, hx⟩ : ∃ x, N / g = x := ⟨_, rfl⟩
  obtain ⟨y, hy⟩ : ∃ y, N / d = y := ⟨_, rfl⟩
  rw [hx] at HB2 hxl
  rw [hy] at HB1
  obtain ⟨xh, hxh⟩ : ∃ k, x / 18446744073709551616 = k := ⟨_, rfl⟩
  obtain ⟨xq, hxq⟩ : ∃ k, x % 18446744073709551616 = k := ⟨_, rfl⟩
  unfold uV at HB1 HB2
  rw [hxh, hxq] at HB2
  have HF : Hid (dV (N / g) (d / g) = .agg #[.int .u64 xh, .int .u64 xq, .int .u64 (d / g : Nat)]) := Lib.hid (by unfold dV; rw [hx, hxh, hxq])
  have HE := Lib.hid (show IntKind.u64.wrap ((d : Int) / (g : Int)) = ((d / g : Nat) : Int) by rw [show ((d : Int) / (g : Int)) = ((d / g : Nat) : Int) from by simp, wrap_small (Nat.lt_of_le_of_lt (Nat.div_le_self _ _) hd)])
  have HN := Lib.hid hN
  have HG := Lib.hid hg
  have hgz : ¬ g = 0 := by omega
  clear hN hg hml hgd hx hy hxh hxq hxl hNl
  generalize hm : N % d = m at *
  have HMm := Lib.hid hm
  clear hm
  generalize y / 18446744073709551616 = yh at *
  generalize y % 18446744073709551616 = yl at *
  go_enter Tryz.func61, Tryz.ntmps61
  go_wp2_with fail
  refine (HB1 _).out.mono ?_
  rintro e w1 ⟨rfl, hk1⟩
  have HA : Hid (w1.heap[w.heap.size]? = some (.cells #[.int .u64 hi, .int .u64 lo] 117 (0, 0))) := Lib.hid (new1 ((Kept.alloc Nob (w.alloc (.cells #[.int .u64 hi, .int .u64 lo] 117)) _).then hk1))
  have hr := new1 hk1
  simp only [World.alloc, Array.size_push] at hr
  have l0 : w.heap.size < w1.heap.size := (Array.getElem?_eq_some_iff.1 HA.out).1
  have l1 : w.heap.size + 1 < w1.heap.size := (Array.getElem?_eq_some_iff.1 hr).1
  have HR := Lib.hid hr
  have HK1 := Lib.hid (((Kept.alloc Nob w (.cells #[.int .u64 hi, .int .u64 lo] 117)).then (Kept.alloc Nob _ (.cells #[.int .u64 0, .int .u64 0, .int .u64 0] 71))).then hk1)
  clear hk1 hr
  go_wp2_with fail
  refine (HC _).out.mono ?_
  rintro e w2 ⟨rfl, hk2⟩
  have b0 : w2.heap[w.heap.size]? = some (.cells #[.int .u64 hi, .int .u64 lo] 117 (0, 0)) := (hk2.block _ (by simp; omega) (fun f => f)).trans ((Go.heap_alloc_old w1 _ l0).trans HA.out)
  have HR2 : Hid (w2.heap[w.heap.size + 1]? = some (.cells #[.int .u64 0, .int .u64 0, .int .u64 0] 71 (0, 0))) := Lib.hid ((hk2.block _ (by simp; omega) (fun f => f)).trans ((Go.heap_alloc_old w1 _ l1).trans HR.out))
  have c0 := cell_at b0 0 _ rfl
  have c1 := cell_at b0 1 _ rfl
  have HK2 := Lib.hid (HK1.out.then ((Kept.alloc Nob w1 _).then hk2))
  have l2 : w.heap.size + 1 < w2.heap.size := (Array.getElem?_eq_some_iff.1 HR2.out).1
  clear hk2 b0
  go_wp2_with fail
  refine (HB2 _).out.mono ?_
  rintro e w3 ⟨rfl, hk3⟩
  have hr := (hk3.block _ l2 (fun f => f)).trans HR2.out
  have l3 : w.heap.size + 1 < w3.heap.size := (Array.getElem?_eq_some_iff.1 hr).1
  have r0 := cell_at hr 0 _ rfl
  have r1 := cell_at hr 1 _ rfl
  have r2 := cell_at hr 2 _ rfl
  have f0 := frozen_at hr 0
  have f1 := frozen_at hr 1
  have f2 := frozen_at hr 2
  have HR3 := Lib.hid hr
  have HK3 := Lib.hid (HK2.out.then hk3)
  clear hr hk3 c0 c1
  go_wp2_with fail
  go_region
  go_wp2_with fail
  rw [HE.out]
  have hch := Go.heap_setCell_same _ _ 2 _ 71 (.int .u64 (d / g : Nat)) (Go.heap_setCell_same _ _ 1 _ 71 (.int .u64 xq) (Go.heap_setCell_same _ _ 0 _ 71 (.int .u64 xh) HR3.out))
  have hfin := (Go.heap_alloc_old _ (.cells #[.int .u64 xh, .int .u64 xq] 117) (Array.getElem?_eq_some_iff.1 hch).1).trans hch
  refine bodyPost_cellv (p := 4) (ty := 71) (g := w.heap.size + 1) (t := 71) (cs := #[.int .u64 xh, .int .u64 xq, .int .u64 (d / g : Nat)]) (by kernel_rfl) rfl hfin Tryz.underlying71 rfl (by kernel_rfl) rfl ⟨N, g, HN.out.symm, by rw [HMm.out]; exact HG.out.symm, by rw [HF.out], ?_⟩
  exact ((HK3.out.from (Nat.le_refl _) ((((kept1 _ (w.heap.size + 1) 0 _).trans' (kept1 _ (w.heap.size + 1) 1 _)).trans' (kept1 _ (w.heap.size + 1) 2 _)).mono fun j _ (h : j = w.heap.size + 1) => show w.heap.size ≤ j by omega)).then (Kept.alloc Nob _ _)).then (Kept.drew Nob _)

def wNone : List UInt8 := [110, 111, 110, 101]
/-- a fraction's text -/
def frTxt (N d : Nat) : List UInt8 :=
  if d = 0 then wNone else
  if d / Nat.gcd d (N % d) = 1 then Lib.decDigits (N / Nat.gcd d (N % d)) else Lib.decDigits (N / Nat.gcd d (N % d)) ++ 47 :: Lib.decDigits (d / Nat.gcd d (N % d))
set_option maxRecDepth 100000 in
set_option maxHeartbeats 4000000 in
theorem ratio_top (w : World) (hi lo d : Nat) : Calls Tryz.prog 56 #[.agg #[.int .u64 hi, .int .u64 lo, .int .u64 d]] w fun e w' => e = .returned (.agg #[.int .u64 hi, .int .u64 lo]) ∧ Kept Nob w w' := by
  have hb : ((w.alloc (.cells #[.int .u64 hi, .int .u64 lo, .int .u64 d] 71)).alloc (.cells #[.int .u64 hi, .int .u64 lo] 111)).heap[w.heap.size + 1]? = some (.cells #[.int .u64 hi, .int .u64 lo] 111 (0, 0)) := by
    have h := Go.heap_alloc_new (w.alloc (.cells #[.int .u64 hi, .int .u64 lo, .int .u64 d] 71)) (.cells #[.int .u64 hi, .int .u64 lo] 111)
    simp only [World.alloc, Array.size_push] at h ⊢
    exact h
  have HB := Lib.hid hb
  clear hb
  go_enter Tryz.func56, Tryz.ntmps56
  go_wp2_with fail
  exact bodyPost_cellv (p := 2) (ty := 111) (g := w.heap.size + 1) (t := 111) (cs := #[.int .u64 hi, .int .u64 lo]) (by kernel_rfl) rfl HB.out Tryz.underlying111 rfl (by kernel_rfl) rfl ⟨rfl, (Kept.alloc Nob w _).then (Kept.alloc Nob _ _)⟩
set_option maxRecDepth 100000 in
set_option maxHeartbeats 4000000 in
theorem ref_Num (w : World) (hi lo d : Nat) : Calls Tryz.prog 62 #[.agg #[.int .u64 hi, .int .u64 lo, .int .u64 d]] w fun e w' => e = .returned (.agg #[.int .u64 hi, .int .u64 lo]) ∧ Kept Nob w w' := by
  have hb : ((w.alloc (.cells #[.int .u64 hi, .int .u64 lo, .int .u64 d] 71)).alloc (.cells #[.int .u64 hi, .int .u64 lo] 117)).heap[w.heap.size + 1]? = some (.cells #[.int .u64 hi, .int .u64 lo] 117 (0, 0)) := by
    have h := Go.heap_alloc_new (w.alloc (.cells #[.int .u64 hi, .int .u64 lo, .int .u64 d] 71)) (.cells #[.int .u64 hi, .int .u64 lo] 117)
    simp only [World.alloc, Array.size_push] at h ⊢
    exact h
  have HB := Lib.hid hb
  clear hb
  go_enter Tryz.func62, Tryz.ntmps62
  go_wp2_with fail
  exact bodyPost_cellv (p := 2) (ty := 117) (g := w.heap.size + 1) (t := 117) (cs := #[.int .u64 hi, .int .u64 lo]) (by kernel_rfl) rfl HB.out Tryz.underlying117 rfl (by kernel_rfl) rfl ⟨rfl, (Kept.alloc Nob w _).then (Kept.alloc Nob _ _)⟩
set_option maxRecDepth 100000 in
theorem ratio_Sound (w : World) (hi lo d : Nat) : Calls Tryz.prog 54 #[.agg #[.int .u64 hi, .int .u64 lo, .int .u64 d]] w fun e w' => ∃ b : Bool, e = .returned (.bool b) ∧ (b = true ↔ d ≠ 0) ∧ Kept Nob w w' := by
  by_cases h0 : d = 0
  · subst h0
    go_enter Tryz.func54, Tryz.ntmps54
    go_wp2_with fail
    go_ret
    exact ⟨false, rfl, by simp, Kept.alloc Nob w _⟩
  · have h0' : ((d : Int) != 0) = true := by simpa using h0
    have HZ := Lib.hid h0
    clear h0
    go_enter Tryz.func54, Tryz.ntmps54
    go_wp2_with fail
    go_ret
    exact ⟨true, rfl, by simpa using HZ.out, Kept.alloc Nob w _⟩
set_option maxRecDepth 100000 in
set_option maxHeartbeats 8000000 in
theorem ratio_Text (w : World) (hi lo d : Nat) (hh : hi < 18446744073709551616) (hl : lo < 18446744073709551616) (hd : d < 18446744073709551616) (hE : Env w) :
    Calls Tryz.prog 29 #[.agg #[.int .u64 hi, .int .u64 lo, .int .u64 d]] w fun e w' => e = .returned (strV (frTxt (hi * 18446744073709551616 + lo) d)) ∧ Kept Nob w w' := by
  obtain ⟨N, hN⟩ : ∃ N, hi * 18446744073709551616 + lo = N := ⟨_, rfl⟩
  rw [hN]
  by_cases h0 : d = 0
  · subst h0
    have HN : Hid (frTxt N 0 = wNone) := Lib.hid (by simp [frTxt])
    have HS := fun (wx : World) => Lib.hid (ratio_Sound wx hi lo 0)
    go_enter Tryz.func29, Tryz.ntmps29
    go_wp2_with fail
    refine (HS _).out.mono ?_
    rintro e w1 ⟨b, rfl, hb, hk1⟩
    obtain rfl : b = false := by cases b with | false => rfl | true => exact absurd rfl (hb.1 rfl)
    have HK := Lib.hid ((Kept.alloc Nob w _).then hk1)
    clear hb hk1
    go_wp2_with fail
    go_ret
    exact ⟨by rw [HN.out]; rfl, HK.out⟩
  have hNl : N < 340282366920938463463374607431768211456 := by omega
  have HLow := fun (wx : World) => Lib.hid (ratio_lowest wx hi lo d hh hl hd (by omega))
  have HTop := fun (wx : World) => Lib.hid (ratio_top wx hi lo d)
  obtain ⟨g, hg⟩ : ∃ g, Nat.gcd d (N % d) = g := ⟨_, rfl⟩
  have hg0 : 0 < g := by rw [← hg]; exact Nat.gcd_pos_of_pos_left _ (by omega)
  obtain ⟨x, hx⟩ : ∃ x, N / g = x := ⟨_, rfl⟩
  obtain ⟨y, hy⟩ : ∃ y, d / g = y := ⟨_, rfl⟩
  have hxl : x < 340282366920938463463374607431768211456 := by rw [← hx]; exact Nat.lt_of_le_of_lt (Nat.div_le_self _ _) hNl
  have hyl : y < 18446744073709551616 := by rw [← hy]; exact Nat.lt_of_le_of_lt (Nat.div_le_self _ _) hd
  have HLw : ∀ wx : World, Hid (Calls Tryz.prog 55 #[.agg #[.int .u64 hi, .int .u64 lo], .int .u64 d] wx fun e w' => e = .returned (dV x y) ∧ Kept Nob wx w') := fun wx => Lib.hid ((HLow wx).out.mono (by
    rintro e w' ⟨N', g', hN', hg', he, hk⟩
    rw [hN] at hN'
    subst hN'
    rw [hg] at hg'
    subst hg'
    rw [hx, hy] at he
    exact ⟨he, hk⟩))
  have HFr : Hid (frTxt N d = if y = 1 then Lib.decDigits x else Lib.decDigits x ++ 47 :: Lib.decDigits y) := Lib.hid (by
    unfold frTxt
    rw [if_neg h0, hg, hx, hy])
  have hdx := dec_size x hxl
  have hdy := dec_size y (by omega)
  have HTop1 := fun (wx : World) => Lib.hid (ratio_top wx (x / 18446744073709551616) (x % 18446744073709551616) y)
  have HTx := fun (wx : World) (kx : Kept Nob w wx) => Lib.hid (wide_Text x hxl wx (hE.kept kx))
  have HTy := fun (wx : World) (kx : Kept Nob w wx) => Lib.hid (fmt_U wx y hyl (hE.kept kx))
  unfold dV at HLw
  unfold uV at HTx
  have hh2 : x / 18446744073709551616 < 18446744073709551616 := by omega
  have hl2 : x % 18446744073709551616 < 18446744073709551616 := by omega
  generalize x / 18446744073709551616 = xh at *
  generalize x % 18446744073709551616 = xq at *
  obtain ⟨xv, hxv⟩ : ∃ u, (⟨(Lib.decDigits x).toArray⟩ : ByteArray) = u := ⟨_, rfl⟩
  obtain ⟨yv, hyv⟩ : ∃ u, (⟨(Lib.decDigits y).toArray⟩ : ByteArray) = u := ⟨_, rfl⟩
  have hxz : xv.size ≤ 39 := by rw [← hxv]; simpa [ByteArray.size] using hdx
  have hyz : yv.size ≤ 39 := by rw [← hyv]; simpa [ByteArray.size] using hdy
  have HO1 : Hid (y = 1 → strV (frTxt N d) = .string xv) := Lib.hid (fun e => by rw [HFr.out, if_pos e, ← hxv]; rfl)
  have HO2 : Hid (y ≠ 1 → strV (frTxt N d) = .string ((xv ++ ⟨#[47]⟩) ++ yv)) := Lib.hid (fun e => by
    rw [HFr.out, if_neg e, ← hxv, ← hyv, show (⟨#[47]⟩ : ByteArray) = ⟨[47].toArray⟩ from rfl, strV_append, strV_append]
    simp [strV])
  unfold strV at HTx HTy
  simp only [hxv] at HTx
  simp only [hyv] at HTy
  have hd0 : ((d : Int) == 0) = false := by simpa using h0
  clear hN hNl hg hg0 hx hy hxl HFr hdx hdy hxv hyv HLow h0
  have HS := fun (wx : World) => Lib.hid (ratio_Sound wx hi lo d)
  have HD0 : Hid (d ≠ 0) := Lib.hid (by simpa using hd0)
  go_enter Tryz.func29, Tryz.ntmps29
  go_wp2_with fail
  refine (HS _).out.mono ?_
  rintro e w1 ⟨b, rfl, hb, hk1⟩
  obtain rfl : b = true := hb.2 HD0.out
  have b0 := new1 hk1
  have c0 := cell_at b0 0 _ rfl
  have c1 := cell_at b0 1 _ rfl
  have c2 := cell_at b0 2 _ rfl
  have HB1 := Lib.hid b0
  have HK1 := Lib.hid ((Kept.alloc Nob w _).then hk1)
  clear hb hk1 b0
  go_upto_region 3 with fail
  go_region_with (first
    | (go_at_call 56; (with_reducible refine (HTop _).out.mono ?_); rintro e wt ⟨rfl, ht⟩; have bt := (ht.block w.heap.size (Array.getElem?_eq_some_iff.1 HB1.out).1 (fun f => f)).trans HB1.out; have t0 := cell_at bt 0 _ rfl; have t1 := cell_at bt 1 _ rfl; have t2 := cell_at bt 2 _ rfl; have HBt := Lib.hid bt; have HKt := Lib.hid ht; clear bt ht)
    | (go_at_call 55; (with_reducible refine (HLw _).out.mono ?_); rintro e wl ⟨rfl, hl⟩; have bt := (hl.block w.heap.size (Array.getElem?_eq_some_iff.1 HBt.out).1 (fun f => f)).trans HBt.out; have s0 := cell_at bt 0 _ rfl; have s1 := cell_at bt 1 _ rfl; have s2 := cell_at bt 2 _ rfl; have f0 := frozen_at bt 0; have f1 := frozen_at bt 1; have f2 := frozen_at bt 2; have HBl := Lib.hid bt; have HKl := Lib.hid hl; clear bt hl))
  all_goals
    have HBz := Lib.hid (Go.heap_setCell_same _ _ 2 _ 71 (.int .u64 y) (Go.heap_setCell_same _ _ 1 _ 71 (.int .u64 xq) (Go.heap_setCell_same _ _ 0 _ 71 (.int .u64 xh) HBl.out)))
    have HKz : Hid (Kept Nob w (((wl.setCell ⟨w.heap.size, 0, none⟩ (.int .u64 xh)).setCell ⟨w.heap.size, 1, none⟩ (.int .u64 xq)).setCell ⟨w.heap.size, 2, none⟩ (.int .u64 y))) := Lib.hid ((((HK1.out.then (Kept.drew Nob _)).then HKt.out).then HKl.out).from (Nat.le_refl _) ((((kept1 _ w.heap.size 0 _).trans' (kept1 _ w.heap.size 1 _)).trans' (kept1 _ w.heap.size 2 _)).mono fun j _ (h : j = w.heap.size) => Nat.le_of_eq h.symm))
    clear HBl HKl HBt HKt HB1 HK1 HTop HLw c0 c1 c2 t0 t1 t2 s0 s1 s2 f0 f1 f2
    generalize (((wl.setCell ⟨w.heap.size, 0, none⟩ (.int .u64 xh)).setCell ⟨w.heap.size, 1, none⟩ (.int .u64 xq)).setCell ⟨w.heap.size, 2, none⟩ (.int .u64 y)) = z at HBz HKz ⊢
    clear wl
    have z0 := cell_at HBz.out 0 _ rfl
    have z1 := cell_at HBz.out 1 _ rfl
    have z2 := cell_at HBz.out 2 _ rfl
    go_wp2_with fail
    refine (HTop1 _).out.mono ?_
    rintro e w4 ⟨rfl, hk4⟩
    have HK4 := Lib.hid (HKz.out.then hk4)
    have HK4' := Lib.hid hk4
    clear hk4
    go_wp2_with fail
    refine (HTx _ HK4.out).out.mono ?_
    rintro e w5 ⟨rfl, hk5⟩
    have hb5 := (HK4'.out.then hk5).block w.heap.size (Array.getElem?_eq_some_iff.1 HBz.out).1 (fun f => f)
    have y0 := cell_at (hb5.trans HBz.out) 0 _ rfl
    have y1 := cell_at (hb5.trans HBz.out) 1 _ rfl
    have y2 := cell_at (hb5.trans HBz.out) 2 _ rfl
    have HK5 := Lib.hid (HK4.out.then hk5)
    clear hk5 hb5
    by_cases hy1 : y = 1
    · have HO := Lib.hid (HO1.out hy1)
      have hy1' : ((y : Int) == 1) = true := by rw [hy1]; rfl
      clear hy1
      go_wp2_with fail
      go_ret
      exact ⟨by rw [HO.out]; rfl, HK5.out⟩
    · have HO := Lib.hid (HO2.out hy1)
      have hy1' : ((y : Int) == 1) = false := by simp; omega
      clear hy1
      go_wp2_with fail
      refine (HTy _ HK5.out).out.mono ?_
      rintro e w6 ⟨rfl, hk6⟩
      have HK6 := Lib.hid (HK5.out.then hk6)
      clear hk6
      go_wp2_with fail
      go_ret
      exact ⟨by rw [HO.out]; rfl, HK6.out⟩

set_option maxRecDepth 100000 in
set_option maxHeartbeats 8000000 in
theorem ref_TextDist (w : World) (hi lo d : Nat) (hh : hi < 18446744073709551616) (hl : lo < 18446744073709551616) (hd : d < 18446744073709551616) :
    Calls Tryz.prog 31 #[.agg #[.int .u64 hi, .int .u64 lo, .int .u64 d]] w fun e w' => e = .returned (strV (frTxt (hi * 18446744073709551616 + lo) d)) ∧ Kept Nob w w' := by
  obtain ⟨N, hN⟩ : ∃ N, hi * 18446744073709551616 + lo = N := ⟨_, rfl⟩
  rw [hN]
  by_cases h0 : d = 0
  · subst h0
    have HN : Hid (frTxt N 0 = wNone) := Lib.hid (by simp [frTxt])
    go_enter Tryz.func31, Tryz.ntmps31
    go_wp2_with fail
    go_ret
    exact ⟨by rw [HN.out]; rfl, Kept.alloc Nob w _⟩
  have hNl : N < 340282366920938463463374607431768211456 := by omega
  have HLow := fun (wx : World) => Lib.hid (ref_Lowest wx hi lo d hh hl hd (by omega))
  have HTop := fun (wx : World) => Lib.hid (ref_Num wx hi lo d)
  obtain ⟨g, hg⟩ : ∃ g, Nat.gcd d (N % d) = g := ⟨_, rfl⟩
  have hg0 : 0 < g := by rw [← hg]; exact Nat.gcd_pos_of_pos_left _ (by omega)
  obtain ⟨x, hx⟩ : ∃ x, N / g = x := ⟨_, rfl⟩
  obtain ⟨y, hy⟩ : ∃ y, d / g = y := ⟨_, rfl⟩
  have hxl : x < 340282366920938463463374607431768211456 := by rw [← hx]; exact Nat.lt_of_le_of_lt (Nat.div_le_self _ _) hNl
  have hyl : y < 18446744073709551616 := by rw [← hy]; exact Nat.lt_of_le_of_lt (Nat.div_le_self _ _) hd
  have HLw : ∀ wx : World, Hid (Calls Tryz.prog 61 #[.agg #[.int .u64 hi, .int .u64 lo], .int .u64 d] wx fun e w' => e = .returned (dV x y) ∧ Kept Nob wx w') := fun wx => Lib.hid ((HLow wx).out.mono (by
    rintro e w' ⟨N', g', hN', hg', he, hk⟩
    rw [hN] at hN'
    subst hN'
    rw [hg] at hg'
    subst hg'
    rw [hx, hy] at he
    exact ⟨he, hk⟩))
  have HFr : Hid (frTxt N d = if y = 1 then Lib.decDigits x else Lib.decDigits x ++ 47 :: Lib.decDigits y) := Lib.hid (by
    unfold frTxt
    rw [if_neg h0, hg, hx, hy])
  have hdx := dec_size x hxl
  have hdy := dec_size y (by omega)
  have HTop1 := fun (wx : World) => Lib.hid (ref_Num wx (x / 18446744073709551616) (x % 18446744073709551616) y)
  have HTx := fun (wx : World) => Lib.hid (ref_Text wx x hxl)
  have HTy := fun (wx : World) => Lib.hid (ref_Text wx y (by omega))
  unfold uV at HTy
  rw [show y / 18446744073709551616 = 0 by omega, show y % 18446744073709551616 = y by omega] at HTy
  unfold dV at HLw
  unfold uV at HTx
  have hh2 : x / 18446744073709551616 < 18446744073709551616 := by omega
  have hl2 : x % 18446744073709551616 < 18446744073709551616 := by omega
  generalize x / 18446744073709551616 = xh at *
  generalize x % 18446744073709551616 = xq at *
  obtain ⟨xv, hxv⟩ : ∃ u, (⟨(Lib.decDigits x).toArray⟩ : ByteArray) = u := ⟨_, rfl⟩
  obtain ⟨yv, hyv⟩ : ∃ u, (⟨(Lib.decDigits y).toArray⟩ : ByteArray) = u := ⟨_, rfl⟩
  have hxz : xv.size ≤ 39 := by rw [← hxv]; simpa [ByteArray.size] using hdx
  have hyz : yv.size ≤ 39 := by rw [← hyv]; simpa [ByteArray.size] using hdy
  have HO1 : Hid (y = 1 → strV (frTxt N d) = .string xv) := Lib.hid (fun e => by rw [HFr.out, if_pos e, ← hxv]; rfl)
  have HO2 : Hid (y ≠ 1 → strV (frTxt N d) = .string ((xv ++ ⟨#[47]⟩) ++ yv)) := Lib.hid (fun e => by
    rw [HFr.out, if_neg e, ← hxv, ← hyv, show (⟨#[47]⟩ : ByteArray) = ⟨[47].toArray⟩ from rfl, strV_append, strV_append]
    simp [strV])
  unfold strV at HTx HTy
  simp only [hxv] at HTx
  simp only [hyv] at HTy
  have hd0 : ((d : Int) == 0) = false := by simpa using h0
  clear hN hNl hg hg0 hx hy hxl HFr hdx hdy hxv hyv HLow h0
  have hb0 := Go.heap_alloc_new w (.cells #[.int .u64 hi, .int .u64 lo, .int .u64 d] 71)
  have HB1 := Lib.hid hb0
  clear hb0
  go_enter Tryz.func31, Tryz.ntmps31
  go_upto_region 3 with fail
  have hlt0 : w.heap.size < (w.alloc (.cells #[.int .u64 hi, .int .u64 lo, .int .u64 d] 71)).heap.size := (Array.getElem?_eq_some_iff.1 HB1.out).1
  go_region_with (first
    | (go_at_call 62; (with_reducible refine (HTop _).out.mono ?_); rintro e wt ⟨rfl, ht⟩; have ht' := (Kept.drew Nob _).then ht; (try (have nb : wt.heap[w.heap.size + 1]? = some (.cells #[.int .u64 0, .int .u64 0, .int .u64 0] 71 (0, 0)) := (by have h := new1 ht'; simp only [World.alloc, Array.size_push] at h; exact h); have n0 := cell_at nb 0 _ rfl; have n1 := cell_at nb 1 _ rfl; have n2 := cell_at nb 2 _ rfl; have HNb := Lib.hid nb; clear nb)); have bt : wt.heap[w.heap.size]? = some (.cells #[.int .u64 hi, .int .u64 lo, .int .u64 d] 71 (0, 0)) := (by first | exact new1 ht' | exact new1 ((Kept.alloc Nob _ _).then ht')); have t0 := cell_at bt 0 _ rfl; have t1 := cell_at bt 1 _ rfl; have t2 := cell_at bt 2 _ rfl; have hltt : w.heap.size < wt.heap.size := (Array.getElem?_eq_some_iff.1 bt).1; have HBt := Lib.hid bt; have HKt : Hid (Kept Nob w wt) := Lib.hid (by first | exact (Kept.alloc Nob w _).then ht' | exact ((Kept.alloc Nob w _).then (Kept.alloc Nob _ _)).then ht'); clear bt ht ht')
    | (go_at_call 61; (with_reducible refine (HLw _).out.mono ?_); rintro e wl ⟨rfl, hl⟩; (try (have nb : wl.heap[wt.heap.size]? = some (.cells #[.int .u64 0, .int .u64 0, .int .u64 0] 71 (0, 0)) := (by exact new1 hl); have s0 := cell_at nb 0 _ rfl; have s1 := cell_at nb 1 _ rfl; have s2 := cell_at nb 2 _ rfl; have f0 := frozen_at nb 0; have f1 := frozen_at nb 1; have f2 := frozen_at nb 2; have HNl := Lib.hid nb; clear nb)); (try (have nb := (hl.block _ (Array.getElem?_eq_some_iff.1 HNb.out).1 (fun f => f)).trans HNb.out; have s0 := cell_at nb 0 _ rfl; have s1 := cell_at nb 1 _ rfl; have s2 := cell_at nb 2 _ rfl; have f0 := frozen_at nb 0; have f1 := frozen_at nb 1; have f2 := frozen_at nb 2; have HNl := Lib.hid nb; clear nb)); have bt : wl.heap[w.heap.size]? = some (.cells #[.int .u64 hi, .int .u64 lo, .int .u64 d] 71 (0, 0)) := (by first | exact (hl.block w.heap.size hltt (fun f => f)).trans HBt.out | exact (((Kept.alloc Nob _ _).then hl).block w.heap.size hltt (fun f => f)).trans HBt.out); have u2 := cell_at bt 2 _ rfl; have HKl : Hid (Kept Nob w wl) := Lib.hid (by first | exact HKt.out.then hl | exact (HKt.out.then (Kept.alloc Nob _ _)).then hl); clear bt hl))
  all_goals first
    | (have HBz : Hid (((((wl.setCell ⟨w.heap.size + 1, 0, none⟩ (.int .u64 xh)).setCell ⟨w.heap.size + 1, 1, none⟩ (.int .u64 xq)).setCell ⟨w.heap.size + 1, 2, none⟩ (.int .u64 y))).heap[w.heap.size + 1]? = some (Obj.cells #[.int .u64 xh, .int .u64 xq, .int .u64 y] 71 (0, 0))) := Lib.hid ((Go.heap_setCell_same _ (w.heap.size + 1) 2 _ 71 (.int .u64 y) (Go.heap_setCell_same _ (w.heap.size + 1) 1 _ 71 (.int .u64 xq) (Go.heap_setCell_same _ (w.heap.size + 1) 0 _ 71 (.int .u64 xh) HNl.out))))
       have HKz : Hid (Kept Nob w (((wl.setCell ⟨w.heap.size + 1, 0, none⟩ (.int .u64 xh)).setCell ⟨w.heap.size + 1, 1, none⟩ (.int .u64 xq)).setCell ⟨w.heap.size + 1, 2, none⟩ (.int .u64 y))) := Lib.hid (HKl.out.from (Nat.le_refl _) ((((kept1 _ (w.heap.size + 1) 0 _).trans' (kept1 _ (w.heap.size + 1) 1 _)).trans' (kept1 _ (w.heap.size + 1) 2 _)).mono fun j _ (h : j = w.heap.size + 1) => show w.heap.size ≤ j by omega))
       generalize hz : (((wl.setCell ⟨w.heap.size + 1, 0, none⟩ (.int .u64 xh)).setCell ⟨w.heap.size + 1, 1, none⟩ (.int .u64 xq)).setCell ⟨w.heap.size + 1, 2, none⟩ (.int .u64 y)) = z at HBz HKz ⊢
       have z0 := cell_at HBz.out 0 _ rfl
       have z1 := cell_at HBz.out 1 _ rfl
       have z2 := cell_at HBz.out 2 _ rfl
       have zl := (Array.getElem?_eq_some_iff.1 HBz.out).1
       clear hz HBt HKt HKl HB1 HTop HLw
       go_wp2_with fail
       refine (HTop1 _).out.mono ?_
       rintro e w4 ⟨rfl, hk4⟩
       have HK4 := Lib.hid (HKz.out.then hk4)
       have HK4' := Lib.hid hk4
       clear hk4
       go_wp2_with fail
       refine (HTx _).out.mono ?_
       rintro e w5 ⟨rfl, hk5⟩
       have hb5 := (HK4'.out.then hk5).block _ zl (fun f => f)
       have y0 := cell_at (hb5.trans HBz.out) 0 _ rfl
       have y1 := cell_at (hb5.trans HBz.out) 1 _ rfl
       have y2 := cell_at (hb5.trans HBz.out) 2 _ rfl
       have HK5 := Lib.hid (HK4.out.then hk5)
       clear hk5 hb5
       by_cases hy1 : y = 1
       · have HO := Lib.hid (HO1.out hy1)
         have hy1' : ((y : Int) != 1) = false := by rw [hy1]; rfl
         clear hy1
         go_wp2_with fail
         go_ret
         exact ⟨by rw [HO.out]; rfl, HK5.out⟩
       · have HO := Lib.hid (HO2.out hy1)
         have hy1' : ((y : Int) != 1) = true := by simp; omega
         clear hy1
         go_wp2_with fail
         refine (HTy _).out.mono ?_
         rintro e w6 ⟨rfl, hk6⟩
         have HK6 := Lib.hid (HK5.out.then hk6)
         clear hk6
         go_wp2_with fail
         go_ret
         exact ⟨by rw [HO.out]; rfl, HK6.out⟩)
    | (have HBz : Hid (((((wl.setCell ⟨wt.heap.size, 0, none⟩ (.int .u64 xh)).setCell ⟨wt.heap.size, 1, none⟩ (.int .u64 xq)).setCell ⟨wt.heap.size, 2, none⟩ (.int .u64 y))).heap[wt.heap.size]? = some (Obj.cells #[.int .u64 xh, .int .u64 xq, .int .u64 y] 71 (0, 0))) := Lib.hid ((Go.heap_setCell_same _ (wt.heap.size) 2 _ 71 (.int .u64 y) (Go.heap_setCell_same _ (wt.heap.size) 1 _ 71 (.int .u64 xq) (Go.heap_setCell_same _ (wt.heap.size) 0 _ 71 (.int .u64 xh) HNl.out))))
       have HKz : Hid (Kept Nob w (((wl.setCell ⟨wt.heap.size, 0, none⟩ (.int .u64 xh)).setCell ⟨wt.heap.size, 1, none⟩ (.int .u64 xq)).setCell ⟨wt.heap.size, 2, none⟩ (.int .u64 y))) := Lib.hid (HKl.out.from (Nat.le_refl _) ((((kept1 _ (wt.heap.size) 0 _).trans' (kept1 _ (wt.heap.size) 1 _)).trans' (kept1 _ (wt.heap.size) 2 _)).mono fun j _ (h : j = wt.heap.size) => show w.heap.size ≤ j by omega))
       generalize hz : (((wl.setCell ⟨wt.heap.size, 0, none⟩ (.int .u64 xh)).setCell ⟨wt.heap.size, 1, none⟩ (.int .u64 xq)).setCell ⟨wt.heap.size, 2, none⟩ (.int .u64 y)) = z at HBz HKz ⊢
       have z0 := cell_at HBz.out 0 _ rfl
       have z1 := cell_at HBz.out 1 _ rfl
       have z2 := cell_at HBz.out 2 _ rfl
       have zl := (Array.getElem?_eq_some_iff.1 HBz.out).1
       clear hz HBt HKt HKl HB1 HTop HLw
       go_wp2_with fail
       refine (HTop1 _).out.mono ?_
       rintro e w4 ⟨rfl, hk4⟩
       have HK4 := Lib.hid (HKz.out.then hk4)
       have HK4' := Lib.hid hk4
       clear hk4
       go_wp2_with fail
       refine (HTx _).out.mono ?_
       rintro e w5 ⟨rfl, hk5⟩
       have hb5 := (HK4'.out.then hk5).block _ zl (fun f => f)
       have y0 := cell_at (hb5.trans HBz.out) 0 _ rfl
       have y1 := cell_at (hb5.trans HBz.out) 1 _ rfl
       have y2 := cell_at (hb5.trans HBz.out) 2 _ rfl
       have HK5 := Lib.hid (HK4.out.then hk5)
       clear hk5 hb5
       by_cases hy1 : y = 1
       · have HO := Lib.hid (HO1.out hy1)
         have hy1' : ((y : Int) != 1) = false := by rw [hy1]; rfl
         clear hy1
         go_wp2_with fail
         go_ret
         exact ⟨by rw [HO.out]; rfl, HK5.out⟩
       · have HO := Lib.hid (HO2.out hy1)
         have hy1' : ((y : Int) != 1) = true := by simp; omega
         clear hy1
         go_wp2_with fail
         refine (HTy _).out.mono ?_
         rintro e w6 ⟨rfl, hk6⟩
         have HK6 := Lib.hid (HK5.out.then hk6)
         clear hk6
         go_wp2_with fail
         go_ret
         exact ⟨by rw [HO.out]; rfl, HK6.out⟩)
    | (have HBz : Hid (((wl.alloc (.cells #[.int .u64 xh, .int .u64 xq, .int .u64 y] 71))).heap[wl.heap.size]? = some (Obj.cells #[.int .u64 xh, .int .u64 xq, .int .u64 y] 71 (0, 0))) := Lib.hid (Go.heap_alloc_new wl _)
       have HKz : Hid (Kept Nob w (wl.alloc (.cells #[.int .u64 xh, .int .u64 xq, .int .u64 y] 71))) := Lib.hid (HKl.out.then (Kept.alloc Nob _ _))
       generalize hz : (wl.alloc (.cells #[.int .u64 xh, .int .u64 xq, .int .u64 y] 71)) = z at HBz HKz ⊢
       have z0 := cell_at HBz.out 0 _ rfl
       have z1 := cell_at HBz.out 1 _ rfl
       have z2 := cell_at HBz.out 2 _ rfl
       have zl := (Array.getElem?_eq_some_iff.1 HBz.out).1
       clear hz HBt HKt HKl HB1 HTop HLw
       go_wp2_with fail
       refine (HTop1 _).out.mono ?_
       rintro e w4 ⟨rfl, hk4⟩
       have HK4 := Lib.hid (HKz.out.then hk4)
       have HK4' := Lib.hid hk4
       clear hk4
       go_wp2_with fail
       refine (HTx _).out.mono ?_
       rintro e w5 ⟨rfl, hk5⟩
       have hb5 := (HK4'.out.then hk5).block _ zl (fun f => f)
       have y0 := cell_at (hb5.trans HBz.out) 0 _ rfl
       have y1 := cell_at (hb5.trans HBz.out) 1 _ rfl
       have y2 := cell_at (hb5.trans HBz.out) 2 _ rfl
       have HK5 := Lib.hid (HK4.out.then hk5)
       clear hk5 hb5
       by_cases hy1 : y = 1
       · have HO := Lib.hid (HO1.out hy1)
         have hy1' : ((y : Int) != 1) = false := by rw [hy1]; rfl
         clear hy1
         go_wp2_with fail
         go_ret
         exact ⟨by rw [HO.out]; rfl, HK5.out⟩
       · have HO := Lib.hid (HO2.out hy1)
         have hy1' : ((y : Int) != 1) = true := by simp; omega
         clear hy1
         go_wp2_with fail
         refine (HTy _).out.mono ?_
         rintro e w6 ⟨rfl, hk6⟩
         have HK6 := Lib.hid (HK5.out.then hk6)
         clear hk6
         go_wp2_with fail
         go_ret
         exact ⟨by rw [HO.out]; rfl, HK6.out⟩)
end Go.Proofs.YthjiobmglebmdaaGreatDoor
