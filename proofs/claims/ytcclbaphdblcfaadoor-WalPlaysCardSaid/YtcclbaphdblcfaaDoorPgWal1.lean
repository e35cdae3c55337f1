/- The log: put, get, packed, mark. -/
import Derived.Test.YtcclbaphdblcfaaDoorPgWalM
import Derived.Test.YtcclbaphdblcfaaDoorPgDisk8
import Derived.Test.YtcclbaphdblcfaaDoorPgAlike
import Derived.Test.YtcclbaphdblcfaaDoorPgReads
namespace Go.Proofs.YtcclbaphdblcfaaDoor
open Go.RowKit

/-- ys are laid over xs from a place on -/
def over (xs : List Value) (o : Nat) (ys : List Value) : List Value := xs.take o ++ ys ++ xs.drop (o + ys.length)
theorem over_nil (xs : List Value) (o : Nat) : over xs o [] = xs := by simp [over]
theorem over_length {xs : List Value} {o : Nat} {ys : List Value} (h : o + ys.length ≤ xs.length) : (over xs o ys).length = xs.length := by
  simp only [over, List.length_append, List.length_take, List.length_drop]; omega
theorem over_snoc {xs : List Value} {o : Nat} {ys : List Value} {v : Value} (h : o + ys.length < xs.length) : (over xs o ys).set (o + ys.length) v = over xs o (ys ++ [v]) := by
  have e1 : (xs.take o ++ ys).length = o + ys.length := by simp only [List.length_append, List.length_take]; omega
  rw [over, over, List.set_append_right _ _ (by omega), e1, Nat.sub_self, List.drop_eq_getElem_cons h]
  simp only [List.set_cons_zero, List.length_append, List.length_cons, List.length_nil]
  rw [← List.append_assoc, List.append_assoc (xs.take o ++ ys)]
  rfl

theorem put_word (w : World) (g o l c n0 cap : Nat) (xs : List Value) (F : Nat → Prop) (hown : Own w 5 (.slice (some ⟨g, 0, none⟩) n0 cap) xs F) (hfit : o + 8 ≤ xs.length) (hl : 8 ≤ l) (n : Nat) :
    Calls Tryd.prog 67 #[.slice (some ⟨g, o, none⟩) l c, .int .i64 n] w fun e w' => e = .returned (.tuple #[]) ∧ Own w' 5 (.slice (some ⟨g, 0, none⟩) n0 cap) (over xs o (Wal.word n)) F ∧ Kept (Just g) w w' := by
  have HO := Lib.hid hown
  clear hown
  go_enter Tryd.func67, Tryd.ntmps67
  go_wp2
  have HR0 : Hid (Own w 5 (.slice (some ⟨g, 0, none⟩) n0 cap) (over xs o ((Wal.word n).take 0)) F ∧ Kept (Just g) w w) := ⟨by simpa [over_nil] using HO.out, Kept.refl _ _⟩
  go_loopw [5] (fun i wr => ∃ k : Nat, k ≤ 8 ∧ i = .int .i64 k ∧ Own wr 5 (.slice (some ⟨g, 0, none⟩) n0 cap) (over xs o ((Wal.word n).take k)) F ∧ Kept (Just g) w wr) (fun i _ => 8 - (intOf i).toNat)
  case atStart => exact ⟨0, Nat.zero_le _, rfl, HR0.out⟩
  case round =>
    clear HR0
    obtain ⟨k, hk, rfl, ho, hkw⟩ := hrel
    have HOr := Lib.hid ho
    have HK := Lib.hid hkw
    by_cases hlt : k < 8
    · have hlen : (over xs o ((Wal.word n).take k)).length = xs.length := over_length (by simp only [List.length_take, Wal.word_length]; omega)
      obtain ⟨v0, hv0⟩ : ∃ v, (over xs o ((Wal.word n).take k))[o + k]? = some v := ⟨_, List.getElem?_eq_getElem (by omega)⟩
      have c0 := ho.cell (o + k) v0 hv0
      have f0 := ho.frozen (o + k)
      clear ho hkw hlen hv0
      go_wp2_with fail
      have HN : Hid (Own (wr.setCell ⟨g, o + k, none⟩ (.int .u8 ((n : Int) / 2 ^ (8 * k) % 256))) 5 (.slice (some ⟨g, 0, none⟩) n0 cap) (over xs o ((Wal.word n).take (k + 1))) F) := by
        have h1 := HOr.out.set (o + k) (.int .u8 ((n : Int) / 2 ^ (8 * k) % 256))
        have e1 : ((Wal.word n).take k).length = k := by simp only [List.length_take, Wal.word_length]; omega
        have e2 := over_snoc (xs := xs) (o := o) (ys := (Wal.word n).take k) (v := .int .u8 ((n : Int) / 2 ^ (8 * k) % 256)) (by rw [e1]; omega)
        rw [e1] at e2
        rw [e2] at h1
        have e3 : (Wal.word n).take (k + 1) = (Wal.word n).take k ++ [.int .u8 ((n : Int) / 2 ^ (8 * k) % 256)] := by
          rw [List.take_succ_eq_append_getElem (by rw [Wal.word_length]; exact hlt)]
          congr 2
          simp only [Wal.word, List.getElem_map, List.getElem_range, Wal.byteOf]
          rw [show (256 : Nat) ^ k = 2 ^ (8 * k) from by rw [Nat.pow_mul]]
          simp
        rw [e3]; exact h1
      have HK2 := Lib.hid (HK.out.trans' (kept1 wr g (o + k) (.int .u8 ((n : Int) / 2 ^ (8 * k) % 256))))
      go_roundw
      case rel => exact ⟨k + 1, by omega, by go_num, HN.out, HK2.out⟩
      case measure => simp [intOf]; omega
    · have hk8 : k = 8 := by omega
      subst hk8
      go_wp2
      refine bodyPost_end (results_none rfl _ _ _) rfl ?_
      have h1 := HOr.out
      rw [List.take_of_length_le (by rw [Wal.word_length]; exact Nat.le_refl _)] at h1
      exact ⟨rfl, h1, HK.out⟩

theorem bits_or_i64_nat (a b : Nat) (ha : a < 9223372036854775808) (hb : b < 9223372036854775808) : bits .or .i64 (a : Int) (b : Int) = ((a ||| b : Nat) : Int) := by
  have hx : a ||| b < 2 ^ 63 := Nat.or_lt_two_pow (by omega) (by omega)
  have h1 : (BitVec.ofInt 64 (a : Int)).toNat = a := by
    rw [BitVec.ofInt_natCast, BitVec.toNat_ofNat]; exact Nat.mod_eq_of_lt (by omega)
  have h2 : (BitVec.ofInt 64 (b : Int)).toNat = b := by
    rw [BitVec.ofInt_natCast, BitVec.toNat_ofNat]; exact Nat.mod_eq_of_lt (by omega)
  show IntKind.i64.wrap ((BitVec.ofInt 64 (a : Int) ||| BitVec.ofInt 64 (b : Int)).toNat : Int) = _
  rw [BitVec.toNat_or, h1, h2]
  exact IntWalk.i64_in _ (by omega)
/-- a byte more of a number -/
theorem num_or (n k : Nat) (hn : n < 1099511627776) : bits .or .i64 ((Wal.numOf n k : Nat) : Int) (wrap64 (((Wal.byteOf n k : Nat) : Int) * 2 ^ (8 * k))) = ((Wal.numOf n (k + 1) : Nat) : Int) := by
  have e0 : (256 : Nat) ^ k = 2 ^ (8 * k) := by rw [Nat.pow_mul]
  have h1 : Wal.numOf n k < 2 ^ (8 * k) := by rw [Wal.numOf_eq, ← e0]; exact Nat.mod_lt _ (Nat.pow_pos (by omega))
  have h2 : Wal.numOf n (k + 1) ≤ n := by rw [Wal.numOf_eq]; exact Nat.mod_le _ _
  have h3 : Wal.numOf n (k + 1) = Wal.numOf n k + Wal.byteOf n k * 2 ^ (8 * k) := by rw [Wal.numOf, e0]
  have h4 : Wal.byteOf n k * 2 ^ (8 * k) < 1099511627776 := by omega
  have h5 : ((Wal.byteOf n k : Nat) : Int) * 2 ^ (8 * k) = ((Wal.byteOf n k * 2 ^ (8 * k) : Nat) : Int) := by simp
  rw [h5, IntWalk.wrap64_in _ (by omega), bits_or_i64_nat _ _ (by omega) (by omega), h3]
  congr 1
  rw [Nat.or_comm, Nat.mul_comm, ← Nat.two_pow_add_eq_or_of_lt h1, Nat.add_comm]

theorem get_word (w : World) (v : Value) (n : Nat) (hn : n < 1099511627776) (xs : List Value) (F : Nat → Prop) (hr : Reads w v (Wal.word n ++ xs) F) :
    Calls Tryd.prog 45 #[v] w fun e w' => e = .returned (.int .i64 n) ∧ w = w' := by
  obtain ⟨a, c, rfl, -⟩ := hr.shape
  have hl : (Wal.word n ++ xs).length = 8 + xs.length := by rw [List.length_append, Wal.word_length]
  rw [hl] at hr ⊢
  have HR := Lib.hid hr
  clear hr hl
  go_enter Tryd.func45, Tryd.ntmps45
  go_wp2
  go_loop [2, 4] (fun s i => ∃ k : Nat, k ≤ 8 ∧ i = .int .i64 k ∧ s = .int .i64 (Wal.numOf n k)) (fun _ i => 8 - (intOf i).toNat)
  case atStart => exact ⟨0, Nat.zero_le _, rfl, rfl⟩
  case round =>
    obtain ⟨k, hk, rfl, rfl⟩ := hrel
    by_cases hlt : k < 8
    · obtain ⟨b, o, x, rfl, hx, hc, -⟩ := HR.out.cell (i := k) (by rw [List.length_append, Wal.word_length]; omega)
      obtain rfl : x = .int .u8 (Wal.byteOf n k : Nat) := by
        rw [List.getElem?_append_left (by rw [Wal.word_length]; exact hlt), List.getElem?_eq_getElem (by rw [Wal.word_length]; exact hlt)] at hx
        have := Option.some.inj hx
        simp only [Wal.word, List.getElem_map, List.getElem_range] at this
        exact this.symm
      clear hx
      have hb : Wal.byteOf n k < 256 := by unfold Wal.byteOf; omega
      have HNO := Lib.hid (num_or n k hn)
      clear hn
      go_wp2_with fail
      go_round
      case rel => exact ⟨k + 1, by omega, by go_num, by rw [HNO.out]⟩
      case measure => simp [intOf]; omega
    · have hk8 : k = 8 := by omega
      subst hk8
      go_wp2
      go_ret
      exact ⟨ret_int (by rw [Wal.numOf_all n (by omega)]), rfl⟩
end Go.Proofs.YtcclbaphdblcfaaDoor
