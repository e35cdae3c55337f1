/- Pages as bytes: get16, Equal of bytes. -/
import Derived.Test.YthppgchmamonnaaGreatDoorPq21
namespace Go.Proofs.YthppgchmamonnaaGreatDoor
open Go.RowKit
theorem or_bytes (x y : Int) (hx : 0 ≤ x ∧ x < 256) (hy : 0 ≤ y ∧ y < 256) : bits BinOp.or IntKind.i64 x (y * 256) = x + 256 * y := by
  have h := bits_join .i64 16 (by decide) (fun n h0 h1 => IntWalk.i64_in n ⟨by omega, by omega⟩) 8 (y * 256) x (by omega) (by omega) (by omega) (by omega) (by omega) (by omega)
  have hc : bits BinOp.or IntKind.i64 x (y * 256) = bits BinOp.or IntKind.i64 (y * 256) x := by
    simp only [bits, BitVec.or_comm]
  rw [hc, h]; omega
theorem get16_any (w : World) (b o l c : Nat) (x y : Int) (c0 : w.cell? ⟨b, o, none⟩ = some (.int .u8 x)) (c1 : w.cell? ⟨b, o + 1, none⟩ = some (.int .u8 y)) (hl : 2 ≤ l) (hx : 0 ≤ x ∧ x < 256) (hy : 0 ≤ y ∧ y < 256) :
    Calls Tryz.prog 112 #[.slice (some ⟨b, o, none⟩) l c] w fun e w' => e = .returned (.int .i64 (x + 256 * y)) ∧ ∃ n, w' = w.drewN n := by
  have t1 : (0 : Int) < (l : Int) := by omega
  have t2 : (1 : Int) < (l : Int) := by omega
  have HO := Lib.hid (or_bytes x y hx hy)
  go_enter Tryz.func112, Tryz.ntmps112
  go_wp2_with fail
  go_quiet (fail)
  go_wp2_with fail
  go_ret
  exact ⟨ret_int HO.out, _, rfl⟩
set_option maxRecDepth 100000 in
theorem equal_bytes (w : World) (v u : Value) (xs ys : List Int) (F G : Nat → Prop) (h1 : Reads w v (xs.map (Value.int .u8)) F) (h2 : Reads w u (ys.map (Value.int .u8)) G) (hl : xs.length ≤ 1000000) :
    Calls Tryz.prog 113 #[v, u] w fun e w' => e = .returned (.bool (decide (xs = ys))) ∧ ∃ n, w' = w.drewN n := by
  obtain ⟨va, vc, rfl, -⟩ := h1.shape
  obtain ⟨ua, uc, rfl, -⟩ := h2.shape
  rw [List.length_map] at h1
  rw [List.length_map] at h2
  simp only [List.length_map]
  have H1 := Lib.hid h1
  have H2 := Lib.hid h2
  clear h1 h2
  by_cases hlen : xs.length = ys.length
  · have hb : ((xs.length : Int) != (ys.length : Int)) = false := by simp [hlen]
    have HL := Lib.hid hlen
    clear hlen
    obtain ⟨dd, hdd⟩ : ∃ dd, decide (xs = ys) = dd := ⟨_, rfl⟩
    rw [hdd]
    have HD := Lib.hid hdd
    clear hdd
    go_enter Tryz.func113, Tryz.ntmps113
    go_wp2
    go_loopw [13] (fun i wr => ∃ k : Nat, k ≤ xs.length ∧ i = .int .i64 k ∧ xs.take k = ys.take k ∧ ∃ n, wr = w.drewN n) (fun i _ => xs.length - (intOf i).toNat)
    case atStart => exact ⟨0, Nat.zero_le _, rfl, rfl, 0, rfl⟩
    case round =>
      obtain ⟨k, hk, rfl, he, n, rfl⟩ := hrel
      have HE := Lib.hid he
      clear he
      by_cases hlt : k < xs.length
      · have hlt2 : k < ys.length := by rw [← HL.out]; exact hlt
        obtain ⟨b1, o1, x1, rfl, hx1, c1, -⟩ := H1.out.cell (i := k) (by simpa using hlt)
        obtain ⟨b2, o2, x2, rfl, hx2, c2, -⟩ := H2.out.cell (i := k) (by simpa using hlt2)
        obtain rfl : x1 = .int .u8 xs[k] := by
          rw [List.getElem?_map, List.getElem?_eq_getElem hlt] at hx1
          exact (Option.some.inj hx1).symm
        obtain rfl : x2 = .int .u8 ys[k] := by
          rw [List.getElem?_map, List.getElem?_eq_getElem hlt2] at hx2
          exact (Option.some.inj hx2).symm
        clear hx1 hx2
        have i0 : (0 : Int) ≤ (k : Int) := Int.natCast_nonneg _
        have i1 : (k : Int) < (xs.length : Int) := by omega
        have i2 : (k : Int) < (ys.length : Int) := by omega
        have E1 := Lib.hid (List.take_succ_eq_append_getElem hlt)
        have E2 := Lib.hid (List.take_succ_eq_append_getElem hlt2)
        have HX : Hid (xs[k] ≠ ys[k] → dd = false) := Lib.hid fun hne => by
          rw [← HD.out]
          exact decide_eq_false fun e => hne (by subst e; rfl)
        generalize xs[k] = a1 at *
        generalize ys[k] = a2 at *
        by_cases heq : a1 = a2
        · have hbe : (a1 != a2) = false := by simp [heq]
          have HQ := Lib.hid heq
          clear heq
          go_wp2_with fail
          go_quiet (fail)
          go_wp2
          go_roundw
          case rel => exact ⟨k + 1, by omega, by go_num, by rw [E1.out, E2.out, HE.out, HQ.out], _, rfl⟩
          case measure => simp [intOf]; omega
        · have hbe : (a1 != a2) = true := by simp [heq]
          have HQ := Lib.hid (HX.out heq)
          clear heq
          go_wp2_with fail
          go_quiet (fail)
          go_wp2
          go_ret
          exact ⟨by rw [HQ.out]; rfl, _, World.drewN_drewN _ _ _⟩
      · obtain rfl : k = xs.length := by omega
        go_wp2
        go_ret
        refine ⟨?_, _, rfl⟩
        have h2 := HE.out
        rw [List.take_length, HL.out, List.take_length] at h2
        rw [← HD.out, decide_eq_true h2]; rfl
  · have hb : ((xs.length : Int) != (ys.length : Int)) = true := by simp; omega
    have HD : Hid (decide (xs = ys) = false) := Lib.hid (decide_eq_false fun e => hlen (by rw [e]))
    generalize decide (xs = ys) = dd at *
    clear hlen
    go_enter Tryz.func113, Tryz.ntmps113
    go_wp2
    go_ret
    exact ⟨by rw [HD.out]; rfl, 0, rfl⟩
end Go.Proofs.YthppgchmamonnaaGreatDoor
