/- DiskOrder: the walk. -/
import Derived.Test.YthjjckpgjfjokaaPgOrdM
namespace Go.Proofs.Ythjjckpgjfjokaa
open Go.RowKit

/-- a disk and rows beside it, all new since w -/
def DiskRows (w : World) (inv : Dsk → List (List Value) → Prop) (b gw n cw : Nat) (wr : World) : Prop :=
  ∃ d wl F Fw, inv d wl ∧ DiskAt wr b d F ∧ OwnRows wr 30 5 (.slice (some ⟨gw, 0, none⟩) n cw) wl Fw ∧ Disj F Fw ∧ NewOnly w F ∧ NewOnly w Fw ∧ Under Fw wr.heap.size ∧ Kept Nob w wr

/-- ahead of the Write -/
theorem DiskRows.mid {wr w1 : World} {b gw n cw : Nat} {d : Dsk} {wl : List (List Value)} {F Fw : Nat → Prop} (hD : DiskAt wr b d F) (hW : OwnRows wr 30 5 (.slice (some ⟨gw, 0, none⟩) n cw) wl Fw) (hdj : Disj F Fw)
    (hk1 : Kept Nob wr w1) {v : Value} {x : List Value} (ho1 : Own w1 5 v x (From wr.heap.size)) (a : Nat) (ha : a < wl.length) :
    ∃ u, w1.cell? ⟨gw, a, none⟩ = some u ∧ w1.frozen? ⟨gw, a, none⟩ = false ∧ n = wl.length ∧ DiskAt (w1.setCell ⟨gw, a, none⟩ v) b d F ∧ Reads (w1.setCell ⟨gw, a, none⟩ v) v x (From wr.heap.size) ∧ Disj (From wr.heap.size) F := by
  have hW1 := hW.kept hk1 (fun _ _ f => f)
  obtain ⟨u, c1, c2, _, c4⟩ := hW1.cell ha
  obtain ⟨_, hgF, hov⟩ := hW.store (by decide) hk1 ho1 a
  have hD1 := hD.kept hk1 (fun _ _ f => f)
  refine ⟨u, c1, c2, c4, hD1.kept (kept1 w1 gw a v) (fun k hF hk => hdj k hF (by rw [show k = gw from hk]; exact hgF)), hov.reads, fun k h1 h2 => ?_⟩
  have := hD.under k h2
  exact absurd this (Nat.not_lt.2 h1)

/-- behind the Write -/
theorem DiskRows.post {w wr w1 w3 : World} {inv : Dsk → List (List Value) → Prop} {b gw n cw : Nat} {d d' : Dsk} {wl : List (List Value)} {F Fw F3 : Nat → Prop} (hD : DiskAt wr b d F) (hW : OwnRows wr 30 5 (.slice (some ⟨gw, 0, none⟩) n cw) wl Fw) (hdj : Disj F Fw)
    (hnF : NewOnly w F) (hnW : NewOnly w Fw) (hU : Under Fw wr.heap.size) (hk : Kept Nob w wr) (hk1 : Kept Nob wr w1) {v : Value} {x : List Value} (ho1 : Own w1 5 v x (From wr.heap.size)) (a : Nat)
    (hD3 : DiskAt w3 b d' F3) (hg3 : Grows F (w1.setCell ⟨gw, a, none⟩ v).heap.size F3) (hk3 : Kept F (w1.setCell ⟨gw, a, none⟩ v) w3) (hinv : inv d' (wl.set a x)) : DiskRows w inv b gw n cw w3 := by
  obtain ⟨hst, hgF, hov⟩ := hW.store (by decide) hk1 ho1 a
  have hsz : (w1.setCell ⟨gw, a, none⟩ v).heap.size = w1.heap.size := by simp [World.setCell]
  have s0 := hk.size
  have s1 := hk1.size
  have s3 := hk3.size
  have hdj2 : Disj F (fun k => Fw k ∨ (wr.heap.size ≤ k ∧ k < w1.heap.size)) := fun k h1 h2 => by
    rcases h2 with h2 | h2
    · exact hdj k h1 h2
    · have := hD.under k h1; omega
  have hU2 : Under (fun k => Fw k ∨ (wr.heap.size ≤ k ∧ k < w1.heap.size)) w1.heap.size := fun k h => by
    rcases h with h | h
    · have := hU k h; omega
    · exact h.2
  refine ⟨d', _, F3, _, hinv, hD3, hst.kept hk3 (fun k h1 h2 => hdj2 k h2 h1), hdj2.grows hg3 (by rw [hsz]; exact hU2), ?_, ?_, ?_, ?_⟩
  · intro k hk'
    rcases hg3 k hk' with h | h
    · exact hnF k h
    · rw [hsz] at h; omega
  · intro k hk'
    rcases hk' with h | h
    · exact hnW k h
    · omega
  · exact hU2.mono (by rw [hsz] at s3; exact s3)
  · have q1 : Kept (From w.heap.size) wr (w1.setCell ⟨gw, a, none⟩ v) := (hk1.nob).trans' ((kept1 w1 gw a v).mono fun k _ h => by rw [show k = gw from h]; exact hnW gw hgF)
    exact hk.from (Nat.le_refl _) (q1.trans' (hk3.mono fun k _ h => hnF k h))

set_option maxHeartbeats 2000000 in
theorem order_main (w : World) (n : Nat) (h1 : 1 ≤ n) (h2 : n ≤ 20) (av : Value) (again : List Int) (G : Nat → Prop) (hr : Reads w av (again.map (Value.int .i64)) G) (hl : again.length ≤ 40) (k : Int) :
    Calls Try.prog 3 #[.int .i64 n, av, .int .i64 k] w (RetTrue w) := by
  obtain ⟨aa, ac, rfl, _⟩ := hr.shape
  have HR := Lib.hid hr
  clear hr
  simp only [List.length_map]
  go_enter Try.func3, Try.ntmps3
  go_wp2_with fail
  refine (disk_new w n h1 (by omega)).mono ?_
  rintro e w1 ⟨b, rfl, hD1, hk1⟩
  have HD1 := Lib.hid hD1
  have HK1 := Lib.hid hk1
  clear hD1 hk1
  go_wp2_with (at_make; refine wpList_make_pg rfl _ _ 29 rfl tRows rfl n .i64 .i64 rfl rfl (by omega) ?_; intro w2 ho2 hk2)
  have hrel0 : DiskRows w (Ord.Inv1 n 0) b w1.heap.size n n w2 := by
    have hs1 := HK1.out.size
    refine ⟨Dsk.fresh n, List.replicate n [], _, (fun k => w1.heap.size ≤ k ∧ k < w2.heap.size), Ord.Inv1.start n, HD1.out.kept hk2 (fun _ _ f => f), ⟨_, ho2.mono (fun k hk h => ⟨h, hk⟩), RowsAt.nils _ _ _ _⟩, fun k h1 h2 => by omega, fun k h => h.1, fun k h => by omega, fun k h => h.2, HK1.out.then hk2⟩
  have HR0 := Lib.hid hrel0
  clear hrel0 ho2 hk2 HD1 HK1
  generalize w1.heap.size = gw at *
  go_loopw [10] (fun i wr => ∃ j : Nat, j ≤ n ∧ i = .int .i64 j ∧ DiskRows w (Ord.Inv1 n j) b gw n n wr) (fun i _ => n - (intOf i).toNat)
  case atStart => exact ⟨0, Nat.zero_le _, rfl, HR0.out⟩
  case round =>
    clear HR0
    obtain ⟨j, hj, rfl, d, wl, F, Fw, hinv, hD, hW, hdj, hnF, hnW, hU, hk⟩ := hrel
    by_cases hlt : j < n
    · obtain ⟨a, ha⟩ : ∃ a : Nat, (n : Int) - 1 - j = a := ⟨n - 1 - j, by omega⟩
      have HI := Lib.hid hinv
      have HD := Lib.hid hD
      have HW := Lib.hid hW
      have HP := fun w1 w3 F3 v q1 q2 q3 q4 q5 => DiskRows.post (inv := Ord.Inv1 n (j + 1)) (d' := d.begun.put a (blockRow 64 j)) (x := blockRow 64 j) (w1 := w1) (w3 := w3) (F3 := F3) (v := v) hD hW hdj hnF hnW hU hk q1 q2 a q3 q4 q5 (hinv.step ha (blockRow 64 j))
      have HPP := Lib.hid HP
      have HDJ := Lib.hid hdj
      clear hD hW hdj hnF hnW hU hk HP hinv
      have hal : a < n := by omega
      have a0 : (0 : Int) ≤ (a : Int) := Int.natCast_nonneg _
      have a1 : (a : Int) < (n : Int) := by omega
      go_wp2_with fail
      refine (block_any wr 64 (by omega) j).mono ?_
      rintro e w3 ⟨g3, rfl, ho3, hk3⟩
      obtain ⟨u, c1, c2, -, q1, q2, q3⟩ := DiskRows.mid HD.out HW.out HDJ.out hk3 ho3 a (by rw [HI.out.wll]; exact hal)
      have HO3 := Lib.hid ho3
      have HK3 := Lib.hid hk3
      have HQ1 := Lib.hid q1
      have HQ2 := Lib.hid q2
      have HQ3 := Lib.hid q3
      clear ho3 hk3 q1 q2 q3
      go_wp2_with fail
      refine (disk_write _ b d F HQ1.out a (by rw [HI.out.good, List.length_replicate]; exact hal) _ (blockRow 64 j) _ HQ2.out ⟨blockRow_length _ _, blockRow_bytes _ _⟩ HQ3.out (by rw [HI.out.ops]; omega) HI.out.goes).mono ?_
      rintro e w4 ⟨rfl, F4, hD4, hg4, hk4⟩
      have HN := Lib.hid (HPP.out w3 w4 F4 _ HK3.out HO3.out hD4 hg4 hk4)
      clear hD4 hg4 hk4
      go_wp2_with fail
      go_roundw
      case rel => exact ⟨j + 1, by omega, by go_num, HN.out⟩
      case measure => simp [intOf]; omega
    · obtain rfl : n = j := by omega
      have hrel1 : DiskRows w (Ord.Inv2 n 0) b gw n n wr := ⟨d, wl, F, Fw, hinv.done, hD, hW, hdj, hnF, hnW, hU, hk⟩
      have HR1 := Lib.hid hrel1
      clear hrel1 hD hW hdj hnF hnW hU hk hinv hlt hj
      go_wp2_with fail
      obtain ⟨wo, rfl⟩ : ∃ wo : World, wo = wr := ⟨_, rfl⟩
      go_loopw [12] (fun i wr => ∃ j : Nat, j ≤ again.length ∧ i = .int .i64 j ∧ DiskRows w (Ord.Inv2 n j) b gw n n wr) (fun i _ => again.length - (intOf i).toNat)
      case atStart => exact ⟨0, Nat.zero_le _, rfl, HR1.out⟩
      case round =>
        clear HR1
        obtain ⟨j, hj, rfl, d, wl, F, Fw, hinv, hD, hW, hdj, hnF, hnW, hU, hk⟩ := hrel
        by_cases hlt : j < again.length
        · obtain ⟨ba, oa, hea, ca⟩ : ∃ b o, aa = some ⟨b, o, none⟩ ∧ wr.cell? ⟨b, o + j, none⟩ = some (.int .i64 again[j]) := by
            rcases HR.out.kept hk (fun _ _ f => f) with ⟨hz, _⟩ | ⟨b', o', c', hx, _, _, _, hc⟩
            · simp at hz; simp [hz] at hlt
            · simp only [Value.slice.injEq] at hx
              exact ⟨b', o', hx.1, hc j _ (by simp [hlt])⟩
          subst hea
          have i1 : (j : Int) < (again.length : Int) := by omega
          have i0 : (0 : Int) ≤ (j : Int) := Int.natCast_nonneg _
          obtain ⟨a, ha, hal⟩ : ∃ a : Nat, again[j] % (n : Int) = a ∧ a < n := by
            have q1 := Int.emod_nonneg again[j] (show (n : Int) ≠ 0 by omega)
            have q2 := Int.emod_lt_of_pos again[j] (show (0 : Int) < n by omega)
            exact ⟨(again[j] % (n : Int)).toNat, by omega, by omega⟩
          have HRd := Lib.hid (round_any wr again[j] (n : Int) (by omega) (by omega))
          rw [ha] at HRd
          have HI := Lib.hid hinv
          have HD := Lib.hid hD
          have HW := Lib.hid hW
          have HP := fun w1 w3 F3 v q1 q2 q3 q4 q5 => DiskRows.post (inv := Ord.Inv2 n (j + 1)) (d' := d.begun.put a (blockRow 64 (50 + j))) (x := blockRow 64 (50 + j)) (w1 := w1) (w3 := w3) (F3 := F3) (v := v) hD hW hdj hnF hnW hU hk q1 q2 a q3 q4 q5 (hinv.step hal (blockRow 64 (50 + j)))
          have HPP := Lib.hid HP
          have HDJ := Lib.hid hdj
          clear hD hW hdj hnF hnW hU hk HP hinv ha
          have a0 : (0 : Int) ≤ (a : Int) := Int.natCast_nonneg _
          have a1 : (a : Int) < (n : Int) := by omega
          generalize again[j] = aj at *
          go_wp2_with (go_at_call 11; refine HRd.out.mono ?_; rintro e w' ⟨rfl, rfl⟩)
          refine (block_any wr 64 (by omega) (50 + j)).mono ?_
          rintro e w3 ⟨g3, rfl, ho3, hk3⟩
          obtain ⟨u, c1, c2, -, q1, q2, q3⟩ := DiskRows.mid HD.out HW.out HDJ.out hk3 ho3 a (by rw [HI.out.same, HI.out.nl]; exact hal)
          have HO3 := Lib.hid ho3
          have HK3 := Lib.hid hk3
          have HQ1 := Lib.hid q1
          have HQ2 := Lib.hid q2
          have HQ3 := Lib.hid q3
          clear ho3 hk3 q1 q2 q3
          go_wp2_with fail
          refine (disk_write _ b d F HQ1.out a (by rw [HI.out.good, List.length_replicate]; exact hal) _ (blockRow 64 (50 + j)) _ HQ2.out ⟨blockRow_length _ _, blockRow_bytes _ _⟩ HQ3.out (by rw [HI.out.ops]; omega) HI.out.goes).mono ?_
          rintro e w4 ⟨rfl, F4, hD4, hg4, hk4⟩
          have HN := Lib.hid (HPP.out w3 w4 F4 _ HK3.out HO3.out hD4 hg4 hk4)
          clear hD4 hg4 hk4
          go_wp2_with fail
          go_roundw
          case rel => exact ⟨j + 1, by omega, by go_num, HN.out⟩
          case measure => simp [intOf]; omega
        · obtain rfl : again.length = j := by omega
          obtain ⟨kk, hkk, hkl⟩ : ∃ a : Nat, k % (n : Int) = a ∧ a < n := by
            have q1 := Int.emod_nonneg k (show (n : Int) ≠ 0 by omega)
            have q2 := Int.emod_lt_of_pos k (show (0 : Int) < n by omega)
            exact ⟨(k % (n : Int)).toNat, by omega, by omega⟩
          have HRd := Lib.hid (round_any wr k (n : Int) (by omega) (by omega))
          rw [hkk] at HRd
          have k0 : (0 : Int) ≤ (kk : Int) := Int.natCast_nonneg _
          have k1 : (kk : Int) < (n : Int) := by omega
          have HI := Lib.hid hinv
          have HD := Lib.hid hD
          have HW := Lib.hid hW
          have HK := Lib.hid hk
          clear hinv hD hW hdj hnF hnW hU hk hlt hj hkk
          go_wp2_with (first | (go_at_call 11; refine HRd.out.mono ?_; rintro e w' ⟨rfl, rfl⟩) | (at_make; refine wpList_make_pg rfl _ _ 34 rfl tBools rfl n .i64 .i64 rfl rfl (by omega) ?_; intro w5 ho5 hk5; have c5 := ho5.cell kk (.bool false) (by rw [List.getElem?_replicate, if_pos hkl]); have f5 := ho5.frozen kk))
          have hset := ho5.set kk (.bool true)
          have hkr : (List.replicate n (Value.bool false)).set kk (.bool true) = (Ord.flag n kk).map Value.bool := by simp [Ord.flag, List.map_set]
          rw [hkr] at hset
          have HO5 := Lib.hid hset
          have hk5' : Kept Nob wr (w5.setCell ⟨wr.heap.size, kk, none⟩ (.bool true)) := hk5.from (Nat.le_refl _) ((kept1 w5 wr.heap.size kk (.bool true)).mono fun x _ h => by rw [show x = wr.heap.size from h]; exact Nat.le_refl _)
          have HK5 := Lib.hid hk5'
          clear hset hkr hk5 hk5' ho5 c5 f5
          generalize w5.setCell { block := wr.heap.size, off := kk } (Value.bool true) = w5' at *
          generalize wr.heap.size = gk at *
          refine (disk_crash w5' b d F (HD.out.kept HK5.out (fun _ _ f => f)) _ (Ord.flag n kk) _ HO5.out.reads (by simp [Ord.flag]; omega) (-1)).mono ?_
          rintro e w6 ⟨b6, rfl, hD6, hk6⟩
          have hx : ∀ i, i < n → (d.crash (Ord.flag n kk) (-1)).now.getD i [] = if n - 1 - kk = i then wl.getD i [] else Dsk.zeroSector := by
            intro i hi
            rw [Ord.crash_flag hkl HI.out]
            by_cases h : n - 1 - kk = i
            · subst h
              rw [if_pos rfl, Ord.getD_set_eq (by simp; omega)]
            · rw [if_neg h, Ord.getD_set_ne h, List.getD_eq_getElem?_getD, List.getElem?_replicate, if_pos hi]; rfl
          have HX := Lib.hid hx
          have HW6 := Lib.hid ((HW.out.kept HK5.out (fun _ _ f => f)).kept hk6 (fun _ _ f => f))
          have HD6 := Lib.hid hD6
          have HK6 := Lib.hid ((HK.out.then HK5.out).then hk6)
          have hwb : ∀ x ∈ wl, x.length = 64 ∧ ∀ u ∈ x, IsByte u := by rw [HI.out.same]; exact HD.out.wf.now
          have HWB := Lib.hid hwb
          have hwl : wl.length = n := by rw [HI.out.same, HI.out.nl]
          have HWL := Lib.hid hwl
          have hgl : (d.crash (Ord.flag n kk) (-1)).good.length = n := by show (Dsk.bites _ _ _ _ _ _).length = n; rw [Dsk.bites_length, HI.out.good, List.length_replicate]
          have HGL := Lib.hid hgl
          clear hx hD6 hk6 hwb hwl hgl HI HD HW HK HK5 HO5 HR
          generalize d.crash (Ord.flag n kk) (-1) = dx at *
          go_wp2_with fail
          obtain ⟨w6o, rfl⟩ : ∃ w6o : World, w6o = w6 := ⟨_, rfl⟩
          go_loopw [16] (fun i wr => ∃ j : Nat, j ≤ n ∧ i = .int .i64 j ∧ Kept Nob w6o wr) (fun i _ => n - (intOf i).toNat)
          case atStart => exact ⟨0, Nat.zero_le _, rfl, Kept.refl _ _⟩
          case round =>
            obtain ⟨j, hj, rfl, hk⟩ := hrel
            by_cases hlt : j < n
            · have HK := Lib.hid hk
              clear hk
              go_wp2_with fail
              refine (disk_read wr b6 dx _ (HD6.out.kept HK.out (fun _ _ f => f)) j (by rw [HGL.out]; exact hlt)).mono ?_
              rintro e w7 ⟨b7, c7, rfl, ho7, hk7⟩
              have hmk := make64
              have hxb : (dx.now.getD j []).length = 64 ∧ ∀ u ∈ dx.now.getD j [], IsByte u := Dsk.Sectors.getD HD6.out.wf.now (by rw [HD6.out.wf.len, HGL.out]; exact hlt)
              have hx := HX.out j hlt
              obtain ⟨v, cv, -, hv, -⟩ := (((HW6.out.kept HK.out (fun _ _ f => f)).kept hk7 (fun _ _ f => f)).kept (Kept.alloc Nob w7 (.cells zero64 5)) (fun _ _ f => f)).cell (i := j) (by rw [HWL.out]; exact hlt)
              have hwj : wl[j]'(by rw [HWL.out]; exact hlt) = wl.getD j [] := by rw [List.getD_eq_getElem?_getD, List.getElem?_eq_getElem (by rw [HWL.out]; exact hlt)]; rfl
              rw [hwj] at hv
              obtain ⟨av, cvv, rfl, _⟩ := hv.reads.shape
              generalize dx.now.getD j [] = X at *
              have HXB := Lib.hid hxb
              have HO7 := Lib.hid (ho7.alloc (.cells zero64 5))
              have HKr := Lib.hid ((HK.out.then hk7).then (Kept.alloc Nob w7 (.cells zero64 5)))
              clear hxb ho7 hk7 hwj
              by_cases hjk : n - 1 - kk = j
              · have hjb : ((j : Int) == (n : Int) - 1 - (kk : Int)) = true := by simp; omega
                rw [if_pos hjk] at hx
                rw [← hx] at hv cv
                have HV := Lib.hid hv
                clear hjk hx hv
                go_wp2_with fail
                refine (bytes_rows _ _ _ X X _ _ HO7.out.reads HV.out.reads HXB.out.2 HXB.out.2 (by have := HXB.out.1; omega) (by have := HXB.out.1; omega)).mono ?_
                rintro e w9 ⟨r9, n9, rfl, hr9, rfl⟩
                obtain rfl : r9 = true := hr9.2 rfl
                clear hr9
                go_wp2_with fail
                go_roundw
                case rel => exact ⟨j + 1, by omega, by go_num, HKr.out.then (Kept.drewN _ _ _)⟩
                case measure => simp [intOf]; omega
              · have hjb : ((j : Int) == (n : Int) - 1 - (kk : Int)) = false := by simp; omega
                rw [if_neg hjk] at hx
                have HX0 := Lib.hid hx
                clear hjk hx hv cv
                go_wp2_with fail
                refine (bytes_rows _ _ _ X Dsk.zeroSector _ _ HO7.out.reads (own_zero64 _).reads HXB.out.2 zeroSector_bytes (by have := HXB.out.1; omega) (by decide)).mono ?_
                rintro e w9 ⟨r9, n9, rfl, hr9, rfl⟩
                obtain rfl : r9 = true := hr9.2 HX0.out
                clear hr9
                go_wp2_with fail
                go_roundw
                case rel => exact ⟨j + 1, by omega, by go_num, HKr.out.then (Kept.drewN _ _ _)⟩
                case measure => simp [intOf]; omega
            · have HK := Lib.hid hk
              clear hk
              go_wp2_with fail
              refine (awake_true wr).mono ?_
              rintro e w7 ⟨rfl, hk7⟩
              go_wp2_with fail
              go_ret
              exact ⟨rfl, (HK6.out.then HK.out).then hk7⟩

theorem order_any (w : World) (n : Int) (av : Value) (again : List Int) (G : Nat → Prop) (hr : Reads w av (again.map (Value.int .i64)) G) (hl : again.length ≤ 9223372036854775807) (k : Int) :
    Calls Try.prog 3 #[.int .i64 n, av, .int .i64 k] w (RetTrue w) := by
  by_cases h : 1 ≤ n ∧ n ≤ 20 ∧ again.length ≤ 40
  · obtain ⟨m, rfl⟩ := Int.eq_ofNat_of_zero_le (show 0 ≤ n by omega)
    exact order_main w m (by omega) (by omega) av again G hr h.2.2 k
  · obtain ⟨aa, ac, rfl, _⟩ := hr.shape
    simp only [List.length_map]
    have HA := Lib.hid (awake_true w)
    clear hr
    have hd : (decide (n < 1) || decide (20 < n) || decide (40 < (again.length : Int))) = true := by simp; omega
    by_cases h1 : n < 1
    · go_enter Try.func3, Try.ntmps3
      go_wp2_with (go_at_call 7; refine HA.out.mono ?_; rintro e w7 ⟨rfl, hk7⟩)
      go_ret
      exact ⟨rfl, hk7⟩
    · by_cases h2 : 20 < n
      · go_enter Try.func3, Try.ntmps3
        go_wp2_with (go_at_call 7; refine HA.out.mono ?_; rintro e w7 ⟨rfl, hk7⟩)
        go_ret
        exact ⟨rfl, hk7⟩
      · have h3 : 40 < (again.length : Int) := by omega
        go_enter Try.func3, Try.ntmps3
        go_wp2_with (go_at_call 7; refine HA.out.mono ?_; rintro e w7 ⟨rfl, hk7⟩)
        go_ret
        exact ⟨rfl, hk7⟩
end Go.Proofs.Ythjjckpgjfjokaa
