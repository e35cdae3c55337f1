/- The document's own numbers: Abs, Decimal, num. -/
import Derived.Test.YthjiobmglebmdaaGreatDoorPgRfText
import Derived.Test.YthjiobmglebmdaaGreatDoorPgScPts
namespace Go.Proofs.YthjiobmglebmdaaGreatDoor
open Go.RowKit
open Go.Proofs.YthjiobmglebmdaaGreatDoor.Dv Go.Proofs.YthjiobmglebmdaaGreatDoor.Geo Go.Proofs.YthjiobmglebmdaaGreatDoor.Txt

theorem ref_Abs (w : World) (x : Int) (hx : InI64 x) : Calls Tryz.prog 60 #[.int .i64 x] w fun e w' => e = .returned (.int .u64 (x.natAbs : Int)) ∧ Kept Nob w w' := by
  unfold InI64 at hx
  go_enter Tryz.func60, Tryz.ntmps60
  by_cases h : x < 0
  · go_wp2_with fail
    go_ret
    refine ⟨?_, Kept.refl _ _⟩
    simp
    go_num
  · go_wp2_with fail
    go_ret
    refine ⟨?_, Kept.refl _ _⟩
    simp
    go_num
theorem ref_Decimal (w : World) (x : Int) (hx : InI64 x) : Calls Tryz.prog 30 #[.int .i64 x] w fun e w' => e = .returned (strV (Lib.itoa x)) ∧ Kept Nob w w' := by
  have HA := Lib.hid (ref_Abs w x hx)
  have hn : x.natAbs < 18446744073709551616 := by unfold InI64 at hx; omega
  have HT := fun (wx : World) => Lib.hid (ref_Text wx x.natAbs (by omega))
  unfold uV at HT
  rw [show x.natAbs / 18446744073709551616 = 0 from by omega, show x.natAbs % 18446744073709551616 = x.natAbs from by omega] at HT
  have HI : Hid ((x < 0 → Lib.itoa x = 45 :: Lib.decDigits x.natAbs) ∧ (¬ x < 0 → Lib.itoa x = Lib.decDigits x.natAbs)) := Lib.hid (by
    unfold Lib.itoa
    constructor
    · intro h; rw [if_pos h]
    · intro h; rw [if_neg h, show x.toNat = x.natAbs from by omega])
  unfold strV at HT ⊢
  obtain ⟨tv, htv⟩ : ∃ u, (⟨(Lib.decDigits x.natAbs).toArray⟩ : ByteArray) = u := ⟨_, rfl⟩
  rw [htv] at HT
  have HTv := Lib.hid htv
  have hsz : tv.size ≤ 39 := by
    rw [← htv]
    simpa [ByteArray.size] using dec_len 39 x.natAbs (by omega) (by omega)
  generalize x.natAbs = n at *
  clear htv
  go_enter Tryz.func30, Tryz.ntmps30
  go_wp2_with fail
  refine HA.out.mono ?_
  rintro e w1 ⟨rfl, hk1⟩
  have HK1 := Lib.hid hk1
  clear hk1 HA
  go_wp2_with fail
  refine (HT w1).out.mono ?_
  rintro e w2 ⟨rfl, hk2⟩
  have HK2 := Lib.hid (HK1.out.then hk2)
  clear hk2 HT
  by_cases h : x < 0
  · go_wp2_with fail
    go_ret
    refine ⟨?_, HK2.out⟩
    rw [HI.out.1 h, ← HTv.out]
    rfl
  · go_wp2_with fail
    go_ret
    refine ⟨?_, HK2.out⟩
    rw [HI.out.2 h, ← HTv.out]
    rfl
/-- the number of a run of digits -/
def dval (l : List UInt8) : Nat := l.foldl (fun a b => a * 10 + (b.toNat - 48)) 0
theorem dval_snoc (l : List UInt8) (b : UInt8) : dval (l ++ [b]) = dval l * 10 + (b.toNat - 48) := by simp [dval]
theorem dval_dec : ∀ n : Nat, dval (Lib.decDigits n) = n := by
  intro n
  induction n using Nat.strongRecOn with
  | ind n ih =>
    by_cases h : n < 10
    · rw [Lib.decDigits_one h]
      simp [dval]
      omega
    · rw [dec_more n h, dval_snoc, ih (n / 10) (by omega), digit_toNat (by omega)]
      omega
theorem dval_mono (l r : List UInt8) : dval l ≤ dval (l ++ r) := by
  induction r generalizing l with
  | nil => simp
  | cons b r ih =>
    have := ih (l ++ [b])
    rw [dval_snoc] at this
    simp at this
    omega
end Go.Proofs.YthjiobmglebmdaaGreatDoor
