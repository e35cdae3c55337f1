/- DiskAgain: the walk. -/
import Derived.Test.YthjjckpgjfjokaaPgDisk8
import Derived.Test.YthjjckpgjfjokaaPgAwake10
namespace Go.Proofs.Ythjjckpgjfjokaa
open Go.RowKit

/-- a disk that is new since w -/
def DiskNew (w : World) (inv : Dsk → Prop) (b : Nat) (wr : World) : Prop :=
  ∃ d F, inv d ∧ DiskAt wr b d F ∧ (∀ k, F k → w.heap.size ≤ k) ∧ Kept Nob w wr

theorem DiskNew.post {w wr w1 w3 : World} {inv : Dsk → Prop} {b : Nat} {d' : Dsk} {F F3 : Nat → Prop} (hnF : ∀ k, F k → w.heap.size ≤ k) (hk : Kept Nob w wr) (hk1 : Kept Nob wr w1)
    (hD3 : DiskAt w3 b d' F3) (hg3 : Grows F w1.heap.size F3) (hk3 : Kept F w1 w3) (hinv : inv d') : DiskNew w inv b w3 := by
  have s0 := hk.size
  have s1 := hk1.size
  refine ⟨d', F3, hinv, hD3, fun k h => ?_, (hk.then hk1).from (Nat.le_refl _) (hk3.mono fun k _ h => hnF k h)⟩
  rcases hg3 k h with h | h
  · exact hnF k h
  · omega

/-- a disk of n sectors behind j ops, with the power on -/
structure OnInv (n : Nat) (j : Int) (d : Dsk) : Prop where
  len : d.good.length = n
  ops : d.ops = j
  cut : d.cut = false
  off : d.off = false
theorem OnInv.goes {n : Nat} {j : Int} {d : Dsk} (h : OnInv n j d) : d.goes = true := by simp [Dsk.goes, h.cut, h.off]
theorem OnInv.put {n : Nat} {j : Int} {d : Dsk} (h : OnInv n j d) (a : Nat) (x : List Value) : OnInv n (j + 1) (d.begun.put a x) :=
  ⟨h.len, by show d.ops + 1 = _; rw [h.ops], h.cut, by show (!d.goes) = false; rw [h.goes]; rfl⟩
theorem OnInv.fresh (n : Nat) : OnInv n 0 (Dsk.fresh n) := ⟨by simp [Dsk.fresh], rfl, rfl, rfl⟩

theorem crash_all {d : Dsk} (h : d.Wf) {i : Nat} (hi : i < d.good.length) : (d.crash [true] (-1)).now.getD i [] = d.now.getD i [] := by
  show (Dsk.bites d.now [true] (-1) d.order 0 d.good).getD i [] = _
  rw [Dsk.bites_all, Dsk.settle_getD _ _ _ _ (fun k hk => (h.order k hk).1) hi]
  split
  · rfl
  · rename_i hn; exact (h.calm i hi hn).symm
theorem crash_len (d : Dsk) (keep : List Bool) (torn : Int) : (d.crash keep torn).good.length = d.good.length := Dsk.bites_length _ _ _ _ _ _

set_option maxRecDepth 100000 in
set_option maxHeartbeats 2000000 in
theorem again_main (w : World) (lv kv mv : Value) (l : List Int) (keep more : List Bool) (G1 G2 G3 : Nat → Prop) (hl : Reads w lv (l.map (Value.int .i64)) G1) (hk : Reads w kv (keep.map Value.bool) G2) (hm : Reads w mv (more.map Value.bool) G3)
    (h1 : l.length ≤ 40) (h2 : keep.length ≤ 40) (h3 : more.length ≤ 40) (torn other : Int) :
    Calls Try.prog 4 #[lv, kv, .int .i64 torn, mv, .int .i64 other] w (RetTrue w) := by
  obtain ⟨la, lc, rfl, _⟩ := hl.shape
  obtain ⟨ka, kc, rfl, _⟩ := hk.shape
  obtain ⟨ma, mc, rfl, _⟩ := hm.shape
  have HL := Lib.hid hl
  have HKp := Lib.hid hk
  have HM := Lib.hid hm
  clear hl hk hm
  simp only [List.length_map] at HL HKp HM ⊢
  go_enter Try.func4, Try.ntmps4
  go_wp2_with fail
  refine (disk_new w 8 (by omega) (by omega)).mono ?_
  rintro e w1 ⟨b, rfl, hD1, hk1⟩
  have HR0 : Hid (DiskNew w (OnInv 8 ((0 : Nat) : Int)) b w1) := ⟨_, _, OnInv.fresh 8, hD1, fun k h => h.1, hk1⟩
  clear hD1 hk1
  go_wp2_with fail
  go_loopw [13] (fun i wr => ∃ j : Nat, j ≤ l.length ∧ i = .int .i64 j ∧ DiskNew w (OnInv 8 j) b wr) (fun i _ => l.length - (intOf i).toNat)
  case atStart => exact ⟨0, Nat.zero_le _, rfl, HR0.out⟩
  case round =>
    clear HR0
    obtain ⟨j, hj, rfl, d, F, hinv, hD, hnF, hk⟩ := hrel
    by_cases hlt : j < l.length
    · obtain ⟨ba, oa, hea, ca⟩ : ∃ b o, la = some ⟨b, o, none⟩ ∧ wr.cell? ⟨b, o + j, none⟩ = some (.int .i64 l[j]) := by
        rcases HL.out.kept hk (fun _ _ f => f) with ⟨hz, _⟩ | ⟨b', o', c', hx, _, _, _, hc⟩
        · simp at hz; simp [hz] at hlt
        · simp only [Value.slice.injEq] at hx
          exact ⟨b', o', hx.1, hc j _ (by simp [hlt])⟩
      subst hea
      have i1 : (j : Int) < (l.length : Int) := by omega
      have i0 : (0 : Int) ≤ (j : Int) := Int.natCast_nonneg _
      obtain ⟨a, ha, hal⟩ : ∃ a : Nat, l[j] % 8 = (a : Int) ∧ a < 8 := by
        exact ⟨(l[j] % 8).toNat, by omega, by omega⟩
      have HRd := Lib.hid (round_any wr l[j] 8 (by omega) (by omega))
      rw [ha] at HRd
      have HI := Lib.hid hinv
      have HD := Lib.hid hD
      have HP := fun w1 w3 F3 q1 q2 q3 q4 => DiskNew.post (b := b) (inv := OnInv 8 (j + 1 : Nat)) (d' := d.begun.put a (blockRow 64 j)) (w1 := w1) (w3 := w3) (F3 := F3) hnF hk q1 q2 q3 q4 (hinv.put a _)
      have HPP := Lib.hid HP
      clear hD hnF hk HP hinv ha
      generalize l[j] = lj at *
      go_wp2_with (go_at_call 11; refine HRd.out.mono ?_; rintro e w' ⟨rfl, rfl⟩)
      refine (block_any wr 64 (by omega) j).mono ?_
      rintro e w3 ⟨g3, rfl, ho3, hk3⟩
      have HO3 := Lib.hid ho3
      have HK3 := Lib.hid hk3
      clear ho3 hk3
      go_wp2_with fail
      refine (disk_write w3 b d F (HD.out.kept HK3.out (fun _ _ f => f)) a (by rw [HI.out.len]; exact hal) _ (blockRow 64 j) _ HO3.out.reads ⟨blockRow_length _ _, blockRow_bytes _ _⟩ (fun k q1 q2 => by have := HD.out.under k q2; simp [From] at q1; omega) (by rw [HI.out.ops]; omega) HI.out.goes).mono ?_
      rintro e w4 ⟨rfl, F4, hD4, hg4, hk4⟩
      have HN := Lib.hid (HPP.out w3 w4 F4 HK3.out hD4 hg4 hk4)
      clear hD4 hg4 hk4
      go_wp2_with fail
      go_roundw
      case rel => exact ⟨j + 1, by omega, by go_num, HN.out⟩
      case measure => simp [intOf]; omega
    · have HI := Lib.hid hinv
      have HD := Lib.hid hD
      have HK := Lib.hid hk
      clear hinv hD hnF hk
      go_wp2_with fail
      refine (disk_crash wr b d F HD.out _ keep _ (HKp.out.kept HK.out (fun _ _ f => f)) (by omega) torn).mono ?_
      rintro e w2 ⟨bx, rfl, hDx, hkx⟩
      have HDx := Lib.hid hDx
      have HK2 := Lib.hid (HK.out.then hkx)
      have HD2 := Lib.hid (HD.out.kept hkx (fun _ _ f => f))
      clear hDx hkx HD HK
      go_wp2_with fail
      refine (disk_crash w2 bx _ _ HDx.out _ more _ (HM.out.kept HK2.out (fun _ _ f => f)) (by omega) other).mono ?_
      rintro e w3 ⟨by_, rfl, hDy, hky⟩
      have HDy := Lib.hid hDy
      have HK3 := Lib.hid (HK2.out.then hky)
      have HD3 := Lib.hid (HD2.out.kept hky (fun _ _ f => f))
      have HDx3 := Lib.hid (HDx.out.kept hky (fun _ _ f => f))
      clear hDy hky HDx HD2 HK2
      go_wp2_with fail
      refine (disk_crash _ b _ F (HD3.out.kept (Kept.alloc Nob _ _) (fun _ _ f => f)) _ [true] (fun _ => True) (.inr ⟨w3.heap.size, 0, 1, rfl, by simp, by simp, trivial, fun i x hx => ?_⟩) (by simp) (-1)).mono ?_
      · match i, hx with
        | 0, hx => simp at hx; subst hx; simp
      rintro e w4 ⟨bz, rfl, hDz, hkz⟩
      have hkz' := (Kept.alloc Nob w3 (.cells #[.bool true] 4)).trans' hkz
      have HDz := Lib.hid hDz
      have HD4 := Lib.hid (HD3.out.kept hkz' (fun _ _ f => f))
      have HDx4 := Lib.hid (HDx3.out.kept hkz' (fun _ _ f => f))
      have HDy4 := Lib.hid (HDy.out.kept hkz' (fun _ _ f => f))
      have HK4 := Lib.hid (HK3.out.then hkz')
      clear hDz hkz hkz' HD3 HDx3 HDy HK3
      go_wp2_with fail
      have hxy : ∀ i, ((d.crash keep torn).crash more other).now.getD i [] = (d.crash keep torn).now.getD i [] := fun _ => rfl
      have hzd : ∀ i, i < 8 → (d.crash [true] (-1)).now.getD i [] = d.now.getD i [] := fun i hi => crash_all HD4.out.wf (by rw [HI.out.len]; exact hi)
      have l1 : (d.crash keep torn).good.length = 8 := by rw [crash_len, HI.out.len]
      have l2 : ((d.crash keep torn).crash more other).good.length = 8 := by rw [crash_len, l1]
      have l3 : (d.crash [true] (-1)).good.length = 8 := by rw [crash_len, HI.out.len]
      have l4 : d.good.length = 8 := HI.out.len
      have hyo : ((d.crash keep torn).crash more other).ops = 0 := rfl
      have hyf : ((d.crash keep torn).crash more other).off = false := rfl
      have HXY := Lib.hid hxy
      have HZD := Lib.hid hzd
      have L1 := Lib.hid l1
      have L2 := Lib.hid l2
      have L3 := Lib.hid l3
      have L4 := Lib.hid l4
      have HYO := Lib.hid hyo
      have HYF := Lib.hid hyf
      clear hxy hzd l1 l2 l3 l4 hyo hyf HI HL HKp HM
      generalize (d.crash keep torn).crash more other = dy at *
      generalize d.crash keep torn = dx at *
      generalize d.crash [true] (-1) = dz at *
      obtain ⟨wo, rfl⟩ : ∃ wo : World, wo = wr := ⟨_, rfl⟩
      go_loopw [17] (fun i wr => ∃ j : Nat, j ≤ 8 ∧ i = .int .i64 j ∧ Kept Nob w4 wr) (fun i _ => 8 - (intOf i).toNat)
      case atStart => exact ⟨0, Nat.zero_le _, rfl, Kept.refl _ _⟩
      case round =>
        obtain ⟨i, hi, rfl, hk⟩ := hrel
        have HK := Lib.hid hk
        clear hk
        by_cases hil : i < 8
        · have s1 : (dx.now.getD i []).length = 64 ∧ ∀ u ∈ dx.now.getD i [], IsByte u := Dsk.Sectors.getD HDx4.out.wf.now (by rw [HDx4.out.wf.len, L1.out]; exact hil)
          have s2 : (d.now.getD i []).length = 64 ∧ ∀ u ∈ d.now.getD i [], IsByte u := Dsk.Sectors.getD HD4.out.wf.now (by rw [HD4.out.wf.len, L4.out]; exact hil)
          have S1 := Lib.hid s1
          have S2 := Lib.hid s2
          have r1 := disk_read wr bx dx _ (HDx4.out.kept HK.out (fun _ _ f => f)) i (by rw [L1.out]; exact hil)
          have R1 := Lib.hid r1
          have r2 := fun wq (hq : Kept Nob wr wq) => disk_read wq by_ dy _ ((HDy4.out.kept HK.out (fun _ _ f => f)).kept hq (fun _ _ f => f)) i (by rw [L2.out]; exact hil)
          rw [HXY.out i] at r2
          have R2 := Lib.hid r2
          have r3 := fun wq (hq : Kept Nob wr wq) => disk_read wq bz dz _ ((HDz.out.kept HK.out (fun _ _ f => f)).kept hq (fun _ _ f => f)) i (by rw [L3.out]; exact hil)
          rw [HZD.out i hil] at r3
          have R3 := Lib.hid r3
          have r4 := fun wq (hq : Kept Nob wr wq) => disk_read wq b d _ ((HD4.out.kept HK.out (fun _ _ f => f)).kept hq (fun _ _ f => f)) i (by rw [L4.out]; exact hil)
          have R4 := Lib.hid r4
          clear s1 s2 r1 r2 r3 r4
          generalize dx.now.getD i [] = X at *
          generalize d.now.getD i [] = Y at *
          go_wp2_with fail
          refine R1.out.mono ?_
          rintro e w5 ⟨b5, c5, rfl, ho5, hk5⟩
          have O5 := Lib.hid ho5
          have K5 := Lib.hid hk5
          clear ho5 hk5
          go_wp2_with fail
          refine (R2.out w5 K5.out).mono ?_
          rintro e w6 ⟨b6, c6, rfl, ho6, hk6⟩
          have O6 := Lib.hid ho6
          have O5' := Lib.hid (O5.out.kept hk6 (fun _ _ f => f))
          have K6 := Lib.hid (K5.out.then hk6)
          clear ho6 hk6 O5 K5
          go_wp2_with fail
          refine (R3.out w6 K6.out).mono ?_
          rintro e w7 ⟨b7, c7, rfl, ho7, hk7⟩
          have O7 := Lib.hid ho7
          have O5 := Lib.hid (O5'.out.kept hk7 (fun _ _ f => f))
          have O6' := Lib.hid (O6.out.kept hk7 (fun _ _ f => f))
          have K7 := Lib.hid (K6.out.then hk7)
          clear ho7 hk7 O5' O6 K6
          go_wp2_with fail
          refine (R4.out w7 K7.out).mono ?_
          rintro e w8 ⟨b8, c8, rfl, ho8, hk8⟩
          have O8 := Lib.hid ho8
          have O5' := Lib.hid (O5.out.kept hk8 (fun _ _ f => f))
          have O6 := Lib.hid (O6'.out.kept hk8 (fun _ _ f => f))
          have O7' := Lib.hid (O7.out.kept hk8 (fun _ _ f => f))
          have K8 := Lib.hid (K7.out.then hk8)
          clear ho8 hk8 O5 O6' O7 K7
          go_wp2_with fail
          refine (bytes_rows w8 _ _ X X _ _ O5'.out.reads O6.out.reads S1.out.2 S1.out.2 (by have := S1.out.1; omega) (by have := S1.out.1; omega)).mono ?_
          rintro e w9 ⟨r9, n9, rfl, hr9, rfl⟩
          obtain rfl : r9 = true := hr9.2 rfl
          clear hr9
          go_wp2_with fail
          refine (bytes_rows _ _ _ Y Y _ _ (O7'.out.reads.kept (Kept.drewN Nob w8 n9) (fun _ _ f => f)) (O8.out.reads.kept (Kept.drewN Nob w8 n9) (fun _ _ f => f)) S2.out.2 S2.out.2 (by have := S2.out.1; omega) (by have := S2.out.1; omega)).mono ?_
          rintro e w10 ⟨r10, n10, rfl, hr10, rfl⟩
          obtain rfl : r10 = true := hr10.2 rfl
          clear hr10
          go_wp2_with fail
          go_roundw
          case rel => exact ⟨i + 1, by omega, by go_num, (HK.out.then K8.out).then (Kept.drewN _ _ _)⟩
          case measure => simp [intOf]; omega
        · have O1 := disk_ops wr by_ dy _ (HDy4.out.kept HK.out (fun _ _ f => f))
          rw [HYO.out] at O1
          have O2 := disk_off wr by_ dy _ (HDy4.out.kept HK.out (fun _ _ f => f))
          rw [HYF.out] at O2
          have O1' := Lib.hid O1
          have O2' := Lib.hid O2
          clear O1 O2
          go_wp2_with (first | (go_at_call 15; refine O1'.out.mono ?_; rintro e w' ⟨rfl, rfl⟩) | (go_at_call 16; refine O2'.out.mono ?_; rintro e w' ⟨rfl, rfl⟩) | (go_at_call 7; refine (awake_true wr).mono ?_; rintro e w7 ⟨rfl, hk7⟩))
          go_ret
          exact ⟨rfl, (HK4.out.then HK.out).then hk7⟩

theorem again_any (w : World) (lv kv mv : Value) (l : List Int) (keep more : List Bool) (G1 G2 G3 : Nat → Prop) (hl : Reads w lv (l.map (Value.int .i64)) G1) (hk : Reads w kv (keep.map Value.bool) G2) (hm : Reads w mv (more.map Value.bool) G3)
    (torn other : Int) :
    Calls Try.prog 4 #[lv, kv, .int .i64 torn, mv, .int .i64 other] w (RetTrue w) := by
  by_cases h : l.length ≤ 40 ∧ keep.length ≤ 40 ∧ more.length ≤ 40
  · exact again_main w lv kv mv l keep more G1 G2 G3 hl hk hm h.1 h.2.1 h.2.2 torn other
  · obtain ⟨la, lc, rfl, _⟩ := hl.shape
    obtain ⟨ka, kc, rfl, _⟩ := hk.shape
    obtain ⟨ma, mc, rfl, _⟩ := hm.shape
    simp only [List.length_map]
    have HA := Lib.hid (awake_true w)
    clear hl hk hm
    generalize l.length = a at *
    generalize keep.length = b at *
    generalize more.length = c at *
    by_cases h1 : 40 < (a : Int)
    · go_enter Try.func4, Try.ntmps4
      go_wp2_with (go_at_call 7; refine HA.out.mono ?_; rintro e w7 ⟨rfl, hk7⟩)
      go_ret
      exact ⟨rfl, hk7⟩
    · by_cases h2 : 40 < (b : Int)
      · go_enter Try.func4, Try.ntmps4
        go_wp2_with (go_at_call 7; refine HA.out.mono ?_; rintro e w7 ⟨rfl, hk7⟩)
        go_ret
        exact ⟨rfl, hk7⟩
      · have h3 : 40 < (c : Int) := by omega
        go_enter Try.func4, Try.ntmps4
        go_wp2_with (go_at_call 7; refine HA.out.mono ?_; rintro e w7 ⟨rfl, hk7⟩)
        go_ret
        exact ⟨rfl, hk7⟩
end Go.Proofs.Ythjjckpgjfjokaa
