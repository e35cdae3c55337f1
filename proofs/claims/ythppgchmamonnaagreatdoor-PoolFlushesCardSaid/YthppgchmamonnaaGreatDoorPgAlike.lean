/- The verifier's small words: Round, Block, Bytes. -/
import Derived.Test.YthppgchmamonnaaGreatDoorChecked
import Derived.Test.YthppgchmamonnaaGreatDoorPgBase
import Derived.Test.YthppgchmamonnaaGreatDoorPgDisk1
namespace Go.Proofs.YthppgchmamonnaaGreatDoor
open Go.RowKit

theorem tmod_up (k n : Int) (h0 : 0 < n) (h1 : n ≤ 1000000000) (h : k.tmod n < 0) : wrap64 (k.tmod n + n) = k % n := by
  have h2 := Int.lt_tmod_of_pos k h0
  have h3 := Int.tmod_eq_emod (a := k) (b := n)
  have h4 := Int.emod_nonneg k (show n ≠ 0 by omega)
  rw [IntWalk.wrap64_in _ (by omega)]
  rw [h3] at h ⊢
  split
  · rename_i hc; rw [if_pos hc] at h; omega
  · have : (n.natAbs : Int) = n := by omega
    omega
theorem tmod_id (k n : Int) (h0 : 0 < n) (h : 0 ≤ k.tmod n) : k.tmod n = k % n := by
  have h3 := Int.tmod_eq_emod (a := k) (b := n)
  have h4 := Int.emod_lt_of_pos k h0
  rw [h3] at h ⊢
  split
  · omega
  · rename_i hc
    rw [if_neg hc] at h
    have : (n.natAbs : Int) = n := by omega
    omega

theorem ret_int' {k : IntKind} {a b : Int} (h : a = b) : Ending.returned (.int k a) = .returned (.int k b) := by rw [h]
theorem ret_bool' {a b : Bool} (h : a = b) : Ending.returned (.bool a) = .returned (.bool b) := by rw [h]

theorem round_any (w : World) (k n : Int) (h0 : 0 < n) (h1 : n ≤ 1000000000) :
    Calls Tryz.prog 17 #[.int .i64 k, .int .i64 n] w fun e w' => e = .returned (.int .i64 (k % n)) ∧ w = w' := by
  have hne : (n == 0) = false := beq_eq_false_iff_ne.2 (by omega)
  go_enter Tryz.func17, Tryz.ntmps17
  go_wp2
  · have hlt : k.tmod n < 0 := by assumption
    go_ret
    exact ⟨ret_int' (tmod_up k n h0 h1 hlt), rfl⟩
  · have hge : 0 ≤ k.tmod n := by assumption
    go_ret
    exact ⟨ret_int' (tmod_id k n h0 hge), rfl⟩

/-- the byte at place i of a block -/
def blkN (k : Int) (i : Nat) : Int := wrap64 (wrap64 ((i : Int) * (i : Int) + wrap64 (k * 7)) + 1) % 251
theorem blkN_range (k : Int) (i : Nat) : 0 ≤ blkN k i ∧ blkN k i < 251 := by unfold blkN; omega
/-- the cells of a block -/
def blockRow (n : Nat) (k : Int) : List Value := (List.range n).map fun i => .int .u8 (blkN k i)
theorem blockRow_length (n : Nat) (k : Int) : (blockRow n k).length = n := by simp [blockRow]
theorem blockRow_bytes (n : Nat) (k : Int) : ∀ u ∈ blockRow n k, IsByte u := by
  intro u hu
  simp only [blockRow, List.mem_map] at hu
  obtain ⟨i, _, rfl⟩ := hu
  exact ⟨_, rfl⟩
theorem blockRow_succ (n : Nat) (k : Int) : blockRow (n + 1) k = blockRow n k ++ [.int .u8 (blkN k n)] := by simp [blockRow, List.range_succ]

theorem set_step {xs zs : List Value} {z v : Value} {k m : Nat} (hx : xs.length = k) (hz : zs = List.replicate (m + 1) z) : (xs ++ zs).set k v = xs ++ [v] ++ List.replicate m z := by
  subst hz
  rw [List.set_append_right k v (by omega), hx]
  simp [List.replicate_succ]

/-- behind Block -/
def RetBlock (w : World) (n : Nat) (k : Int) (en : Ending) (w' : World) : Prop :=
  ∃ g, en = .returned (.slice (some ⟨g, 0, none⟩) n n) ∧ Own w' 5 (.slice (some ⟨g, 0, none⟩) n n) (blockRow n k) (From w.heap.size) ∧ Kept Nob w w'

set_option maxHeartbeats 400000 in
theorem block_any (w : World) (n : Nat) (hn : n ≤ 100000) (k : Int) :
    Calls Tryz.prog 56 #[.int .i64 n, .int .i64 k] w (RetBlock w n k) := by
  have hmax : max (n : Int) 0 = (n : Int) := by omega
  go_enter Tryz.func56, Tryz.ntmps56
  go_wp2_with (at_make; go_must (refine wpList_make_pg rfl _ _ 50 rfl tBytes rfl n .i64 .i64 rfl rfl (by omega) ?_); intro w1 ho1 hk1)
  have HO := Lib.hid ho1
  have HK := Lib.hid hk1
  clear ho1 hk1 hmax
  have hsz := HK.out.size
  obtain ⟨g, hg⟩ : ∃ g, w.heap.size = g := ⟨_, rfl⟩
  have HG := Lib.hid hg
  rw [hg] at HO ⊢
  clear hg
  go_loopw [6] (fun i wr => ∃ k' : Nat, k' ≤ n ∧ i = .int .i64 k' ∧ Own wr 5 (.slice (some ⟨g, 0, none⟩) n n) (blockRow k' k ++ List.replicate (n - k') (.int .u8 0)) (Just g) ∧ Kept (Just g) w1 wr) (fun i _ => n - (intOf i).toNat)
  case atStart => exact ⟨0, Nat.zero_le _, rfl, ⟨by simpa [blockRow] using HO.out.1, fun j hj => by simp [Value.ownBlock] at hj; exact hj.symm⟩, Kept.refl _ _⟩
  case round =>
    obtain ⟨j, hj, rfl, ho, hw⟩ := hrel
    by_cases hlt : j < n
    · have hcell := ho.cell j (.int .u8 0) (by rw [List.getElem?_append_right (by rw [blockRow_length]; omega), blockRow_length, List.getElem?_replicate, if_pos (by omega)])
      have hfz := ho.frozen j
      have hset := ho.set j (.int .u8 (blkN k j))
      rw [set_step (m := n - (j + 1)) (blockRow_length j k) (by rw [show n - j = n - (j + 1) + 1 from by omega]), ← blockRow_succ] at hset
      have HS := Lib.hid hset
      have HW := Lib.hid hw
      have hbl := blkN_range k j
      have HBL : Hid (blkN k j = wrap64 (wrap64 ((j : Int) * (j : Int) + wrap64 (k * 7)) + 1) % 251) := rfl
      clear ho hw hset
      have HR := fun wx => Lib.hid (round_any wx (wrap64 (wrap64 ((j : Int) * (j : Int) + wrap64 (k * 7)) + 1)) 251 (by omega) (by omega))
      rw [← HBL.out] at HR
      have hjj : wrap64 ((j : Int) * (j : Int)) = (j : Int) * (j : Int) := IntWalk.wrap64_in _ ⟨by have := Int.natCast_nonneg j; have := Int.mul_nonneg this this; omega, by
        have h1 : (j : Int) ≤ 100000 := by omega
        have : (j : Int) * (j : Int) ≤ 100000 * 100000 := Int.mul_le_mul h1 h1 (Int.natCast_nonneg j) (by omega)
        omega⟩
      go_wp2_with (go_at_call 17; refine (HR _).out.mono ?_; rintro e w' ⟨rfl, rfl⟩)
      go_roundw
      case rel => exact ⟨j + 1, by omega, by go_num, HS.out, HW.out.trans' (Kept.setCell _ _ _ rfl)⟩
      case measure => simp [intOf]; omega
    · obtain rfl : j = n := by omega
      have hx : blockRow j k ++ List.replicate (j - j) (Value.int .u8 0) = blockRow j k := by simp
      rw [hx] at ho
      go_wp2
      go_ret
      have := HG.out
      exact ⟨g, rfl, ho.mono (fun x _ hx => by rw [show x = g from hx, ← this]; exact Nat.le_refl _), HK.out.from (Nat.le_refl _) (hw.mono fun x _ hx => by rw [show x = g from hx, ← this]; exact Nat.le_refl _)⟩

theorem map_u8_inj {xs ys : List Int} (h : xs.map (Value.int .u8) = ys.map (Value.int .u8)) : xs = ys := by
  induction xs generalizing ys with
  | nil => cases ys with
    | nil => rfl
    | cons y r => simp at h
  | cons x s ih => cases ys with
    | nil => simp at h
    | cons y r => simp at h; rw [h.1, ih h.2]
/-- bytes in their cells are the cells of a list of numbers -/
theorem bytes_list : ∀ (xs : List Value), (∀ u ∈ xs, IsByte u) → ∃ l : List Int, xs = l.map (Value.int .u8)
  | [], _ => ⟨[], rfl⟩
  | x :: r, h => by
    obtain ⟨n, hn⟩ := h x (by simp)
    obtain ⟨l, hl⟩ := bytes_list r (fun u hu => h u (by simp [hu]))
    exact ⟨n :: l, by rw [hn, hl]; rfl⟩
/-- behind Bytes: nothing is turned -/
def RetSame (w : World) (xs ys : List Value) (en : Ending) (w' : World) : Prop :=
  ∃ r n, en = .returned (.bool r) ∧ (r = true ↔ xs = ys) ∧ w' = w.drewN n
theorem RetSame.kept {w w' : World} {xs ys : List Value} {en : Ending} (h : RetSame w xs ys en w') : Kept Nob w w' := by
  obtain ⟨r, n, _, _, rfl⟩ := h
  exact Kept.drewN _ _ _

set_option maxHeartbeats 400000 in
theorem bytes_any (w : World) (v u : Value) (xs ys : List Int) (F G : Nat → Prop) (h1 : Reads w v (xs.map (Value.int .u8)) F) (h2 : Reads w u (ys.map (Value.int .u8)) G) (hl : xs.length < 1000000000) (hl2 : ys.length < 1000000000) :
    Calls Tryz.prog 50 #[v, u] w (RetSame w (xs.map (Value.int .u8)) (ys.map (Value.int .u8))) := by
  obtain ⟨va, vc, rfl, _⟩ := h1.shape
  obtain ⟨ua, uc, rfl, _⟩ := h2.shape
  simp only [List.length_map]
  have H1 := Lib.hid h1
  have H2 := Lib.hid h2
  clear h1 h2
  by_cases hlen : xs.length = ys.length
  · have hb : ((xs.length : Int) != (ys.length : Int)) = false := by simp [hlen]
    have HL := Lib.hid hlen
    clear hlen
    go_enter Tryz.func50, Tryz.ntmps50
    go_wp2
    go_loopw [5] (fun i wr => ∃ k : Nat, k ≤ xs.length ∧ i = .int .i64 k ∧ xs.take k = ys.take k ∧ ∃ n, wr = w.drewN n) (fun i _ => xs.length - (intOf i).toNat)
    case atStart => exact ⟨0, Nat.zero_le _, rfl, rfl, 0, rfl⟩
    case round =>
      obtain ⟨k, hk, rfl, he, n, rfl⟩ := hrel
      have HE := Lib.hid he
      clear he
      by_cases hlt : k < xs.length
      · have hlt2 : k < ys.length := by rw [← HL.out]; exact hlt
        obtain ⟨b1, o1, hva, c1⟩ : ∃ b o, va = some ⟨b, o, none⟩ ∧ w.cell? ⟨b, o + k, none⟩ = some (.int .u8 xs[k]) := by
          rcases H1.out with ⟨hz, _⟩ | ⟨b, o, c, hx, _, _, _, hc⟩
          · simp at hz; simp [hz] at hlt
          · simp only [Value.slice.injEq] at hx
            exact ⟨b, o, hx.1, hc k _ (by simp [hlt])⟩
        obtain ⟨b2, o2, hua, c2⟩ : ∃ b o, ua = some ⟨b, o, none⟩ ∧ w.cell? ⟨b, o + k, none⟩ = some (.int .u8 ys[k]) := by
          rcases H2.out with ⟨hz, _⟩ | ⟨b, o, c, hx, _, _, _, hc⟩
          · simp at hz; simp [hz] at hlt2
          · simp only [Value.slice.injEq] at hx
            exact ⟨b, o, hx.1, hc k _ (by simp [hlt2])⟩
        subst hva hua
        have i0 : (0 : Int) ≤ (k : Int) := Int.natCast_nonneg _
        have i1 : (k : Int) < (xs.length : Int) := by omega
        have i2 : (k : Int) < (ys.length : Int) := by omega
        have e1 : xs.take (k + 1) = xs.take k ++ [xs[k]] := List.take_succ_eq_append_getElem hlt
        have e2 : ys.take (k + 1) = ys.take k ++ [ys[k]] := List.take_succ_eq_append_getElem hlt2
        have E1 := Lib.hid e1
        have E2 := Lib.hid e2
        clear e1 e2
        by_cases heq : xs[k] = ys[k]
        · have hbe : (xs[k] != ys[k]) = false := by simp [heq]
          have HQ := Lib.hid heq
          clear heq
          go_wp2_with fail
          go_quiet (fail)
          go_wp2
          go_roundw
          case rel => exact ⟨k + 1, by omega, by go_num, by rw [E1.out, E2.out, HE.out, HQ.out], _, rfl⟩
          case measure => simp [intOf]; omega
        · have hbe : (xs[k] != ys[k]) = true := by simp [heq]
          have HQ := Lib.hid heq
          clear heq
          go_wp2_with fail
          go_quiet (fail)
          go_wp2
          go_ret
          refine ⟨false, _, rfl, ⟨fun h => (by cases h), fun h => ?_⟩, World.drewN_drewN _ _ _⟩
          have h2 := map_u8_inj h
          subst h2
          exact absurd rfl HQ.out
      · obtain rfl : k = xs.length := by omega
        go_wp2
        go_ret
        refine ⟨true, _, rfl, ⟨fun _ => ?_, fun _ => rfl⟩, rfl⟩
        have h2 := HE.out
        rw [List.take_length, HL.out, List.take_length] at h2
        rw [h2]
  · have hb : ((xs.length : Int) != (ys.length : Int)) = true := by simp; omega
    have HL := Lib.hid hlen
    clear hlen
    go_enter Tryz.func50, Tryz.ntmps50
    go_wp2
    go_ret
    exact ⟨false, 0, rfl, ⟨fun h => (by cases h), fun h => absurd (show xs.length = ys.length by rw [map_u8_inj h]) HL.out⟩, rfl⟩
/-- Bytes, of rows of cells -/
theorem bytes_rows (w : World) (v u : Value) (xs ys : List Value) (F G : Nat → Prop) (h1 : Reads w v xs F) (h2 : Reads w u ys G) (b1 : ∀ c ∈ xs, IsByte c) (b2 : ∀ c ∈ ys, IsByte c) (hl : xs.length < 1000000000) (hl2 : ys.length < 1000000000) :
    Calls Tryz.prog 50 #[v, u] w (RetSame w xs ys) := by
  obtain ⟨l, rfl⟩ := bytes_list xs b1
  obtain ⟨m, rfl⟩ := bytes_list ys b2
  exact bytes_any w v u l m F G h1 h2 (by simpa using hl) (by simpa using hl2)
end Go.Proofs.YthppgchmamonnaaGreatDoor
