/- The document's own numbers: num. -/
import Derived.Test.YthjiobmglebmdaaGreatDoorPgRfNum
namespace Go.Proofs.YthjiobmglebmdaaGreatDoor
open Go.RowKit
open Go.Proofs.YthjiobmglebmdaaGreatDoor.Dv Go.Proofs.YthjiobmglebmdaaGreatDoor.Geo Go.Proofs.YthjiobmglebmdaaGreatDoor.Txt

theorem dec_head (n : Nat) : (Lib.decDigits n).head? ≠ some 45 := by
  intro h
  cases hd : Lib.decDigits n with
  | nil => exact decDigits_ne n hd
  | cons b r =>
    rw [hd] at h
    have := decDigits_bytes n b (by rw [hd]; simp)
    simp at h
    subst h
    simp at this
theorem itoa_head (m : Int) : (Lib.itoa m).head? = some 45 ↔ m < 0 := by
  unfold Lib.itoa
  split
  · simp_all
  · have := dec_head m.toNat
    simp_all
/-- where the digits begin -/
def nf (s : List UInt8) : Nat := if s.head? = some 45 then 1 else 0
theorem itoa_digs (m : Int) : (Lib.itoa m).drop (nf (Lib.itoa m)) = Lib.decDigits m.natAbs := by
  unfold nf
  by_cases h : m < 0
  · rw [if_pos ((itoa_head m).2 h)]
    unfold Lib.itoa
    rw [if_pos h]
    rfl
  · rw [if_neg (fun e => h ((itoa_head m).1 e))]
    unfold Lib.itoa
    rw [if_neg h, show m.toNat = m.natAbs from by omega]
    rfl
theorem num_bad {s : List UInt8} {k : Nat} (hk : k < s.length) (hf : nf s ≤ k) (h : ¬ (48 ≤ s[k].toNat ∧ s[k].toNat ≤ 57) ∨ 1099511627776 < dval ((s.take k).drop (nf s))) : NumRes s 0 false := by
  refine ⟨by unfold InI64; omega, fun m h0 h1 hm => ?_⟩
  exfalso
  subst hm
  rcases h with h | h
  · refine h (decDigits_bytes m.natAbs _ ?_)
    rw [← itoa_digs, List.mem_iff_getElem?]
    refine ⟨k - nf (Lib.itoa m), ?_⟩
    rw [List.getElem?_drop, show nf (Lib.itoa m) + (k - nf (Lib.itoa m)) = k from by omega, List.getElem?_eq_getElem hk]
  · have e : ((Lib.itoa m).take k).drop (nf (Lib.itoa m)) ++ (Lib.itoa m).drop k = Lib.decDigits m.natAbs := by
      rw [← itoa_digs]
      generalize nf (Lib.itoa m) = f at *
      conv => rhs; rw [← List.take_append_drop k (Lib.itoa m)]
      rw [List.drop_append_of_le_length (by simp; omega)]
    have h2 := dval_mono (((Lib.itoa m).take k).drop (nf (Lib.itoa m))) ((Lib.itoa m).drop k)
    rw [e, dval_dec] at h2
    omega
theorem num_end {s : List UInt8} {v : Int} {b : Bool} (hv : v = if s.head? = some 45 then -(dval (s.drop (nf s)) : Int) else (dval (s.drop (nf s)) : Int)) (hb : dval (s.drop (nf s)) ≤ 9223372036854775807) (hbt : Lib.itoa v = s → b = true) : NumRes s v b := by
  refine ⟨by unfold InI64; split at hv <;> omega, fun m h0 h1 hm => ?_⟩
  subst hm
  rw [itoa_digs, dval_dec] at hv
  have hvm : v = m := by
    by_cases h : m < 0
    · rw [if_pos ((itoa_head m).2 h)] at hv; omega
    · rw [if_neg (fun e => h ((itoa_head m).1 e))] at hv; omega
  exact ⟨hvm, hbt (by rw [hvm])⟩
theorem num_step {s : List UInt8} {k : Nat} (hk : k < s.length) (hf : nf s ≤ k) : dval ((s.take (k + 1)).drop (nf s)) = dval ((s.take k).drop (nf s)) * 10 + (s[k].toNat - 48) := by
  rw [List.take_succ_eq_append_getElem hk, List.drop_append_of_le_length (by simp; omega), dval_snoc]
set_option maxRecDepth 100000 in
set_option maxHeartbeats 4000000 in
theorem ref_num (w : World) (s : List UInt8) (hs : s.length ≤ 1000000) :
    Calls Tryz.prog 45 #[strV s] w fun e w' => ∃ v b, e = .returned (.tuple #[.int .i64 v, .bool b]) ∧ NumRes s v b ∧ Kept Nob w w' := by
  obtain ⟨ts, hts⟩ : ∃ u, (⟨s.toArray⟩ : ByteArray) = u := ⟨_, rfl⟩
  have hsz : ts.size = s.length := by rw [← hts]; simp [ByteArray.size]
  have hget : ∀ k (hk : k < s.length) (hk2 : k < ts.size), ts[k]'hk2 = s[k] := fun k hk hk2 => by subst hts; simp [ByteArray.getElem_eq_getElem_data]
  have HG := Lib.hid hget
  clear hget
  have HTs := Lib.hid hts
  unfold strV
  rw [hts]
  clear hts
  go_enter Tryz.func45, Tryz.ntmps45
  by_cases h0 : s.length = 0
  · obtain rfl : s = [] := List.length_eq_zero_iff.1 h0
    have HD := Lib.hid (ref_Decimal w 0 (by unfold InI64; omega))
    unfold strV at HD
    obtain ⟨tv, htv⟩ : ∃ u, (⟨(Lib.itoa 0).toArray⟩ : ByteArray) = u := ⟨_, rfl⟩
    rw [htv] at HD
    clear htv
    go_wp2_with fail
    go_loopw [4, 6] (fun n i wr => i = .int .i64 0 ∧ n = .int .i64 0 ∧ wr = w) (fun _ _ _ => 0)
    case atStart => exact ⟨rfl, rfl, rfl⟩
    case round =>
      obtain ⟨rfl, rfl, rfl⟩ := hrel
      go_wp2_with fail
      refine HD.out.mono ?_
      rintro e w1 ⟨rfl, hk1⟩
      have HK1 := Lib.hid hk1
      clear hk1
      go_wp2_with fail
      go_ret2
      refine ⟨_, _, rfl, ⟨by unfold InI64; omega, fun m _ _ hm => ?_⟩, HK1.out⟩
      exact absurd hm.symm (itoa_ne m)
  have hz : 0 < ts.size := by omega
  go_wp2_with fail
  generalize hnb : ((ts[0].toNat : Int) == 45) = nb
  have hnb2 : nb = true ↔ s.head? = some 45 := by
    rw [← hnb, HG.out 0 (by omega)]
    cases s with
    | nil => simp at h0
    | cons c t =>
      simp
      constructor
      · intro h
        have h2 : c.toNat = 45 := by omega
        exact UInt8.toNat_inj.1 h2
      · rintro rfl; rfl
  have HNB := Lib.hid hnb2
  clear hnb hnb2
  go_loopw [4, 6] (fun n i wr => ∃ k : Nat, k ≤ s.length ∧ i = .int .i64 k ∧ n = .int .i64 (dval ((s.take k).drop (nf s)) : Nat) ∧ dval ((s.take k).drop (nf s)) ≤ 11000000000000 ∧ wr = w) (fun _ i _ => s.length - (intOf i).toNat)
  case atStart => exact ⟨0, by omega, rfl, by simp [dval], by simp [dval], rfl⟩
  case round =>
    obtain ⟨k, hk, rfl, rfl, hle, rfl⟩ := hrel
    obtain ⟨n, hn⟩ : ∃ n, dval ((s.take k).drop (nf s)) = n := ⟨_, rfl⟩
    rw [hn] at hle ⊢
    have HN := Lib.hid hn
    clear hn
    by_cases hlt : k < s.length
    · have hz : k < ts.size := by omega
      have gk := HG.out k hlt hz
      obtain ⟨c, hc⟩ : ∃ c : Nat, (s[k]).toNat = c := ⟨_, rfl⟩
      have gk2 : (ts[k]'hz).toNat = c := by rw [gk]; exact hc
      have hcb : c < 256 := by rw [← hc]; exact UInt8.toNat_lt _
      have HC := Lib.hid hc
      clear gk hc
      by_cases hb : nb = true ∧ k = 0
      · obtain ⟨rfl, rfl⟩ := hb
        have HNf : Hid (nf s = 1) := Lib.hid (by unfold nf; rw [if_pos (HNB.out.1 rfl)])
        go_wp2_with fail
        go_roundw
        case rel =>
          have hnf := HNf.out
          have hl1 : ((s.take 1).drop 1) = [] := by rw [List.drop_eq_nil_iff]; simp; omega
          have h0n : n = 0 := by rw [← HN.out]; simp [dval]
          refine ⟨1, by omega, rfl, ?_, ?_, trivial⟩
          · rw [hnf, hl1, h0n]; rfl
          · rw [hnf, hl1]; simp [dval]
        case measure => simp [intOf]; omega
      · have hnf : nf s ≤ k := by
          unfold nf
          split
          · rename_i h
            have := HNB.out.2 h
            have : k ≠ 0 := fun h0 => hb ⟨this, h0⟩
            omega
          · omega
        have HBad : Hid (¬ (48 ≤ c ∧ c ≤ 57) ∨ 1099511627776 < n → NumRes s 0 false) := Lib.hid (fun h => num_bad hlt hnf (by rw [HC.out, HN.out]; exact h))
        have HSt := Lib.hid (num_step hlt hnf)
        rw [HC.out, HN.out] at HSt
        by_cases hbad : ¬ (48 ≤ c ∧ c ≤ 57) ∨ 1099511627776 < n
        · have HR := Lib.hid (HBad.out hbad)
          clear HBad HSt
          cases nb
          · go_wp2_with fail
            all_goals (go_ret2; first | exact ⟨0, false, rfl, HR.out, Kept.refl _ _⟩ | exact ⟨0, .inl ⟨rfl, HR.out, Kept.refl _ _⟩⟩)
          · have hk0 : k ≠ 0 := fun h0 => hb ⟨rfl, h0⟩
            clear hb
            go_wp2_with fail
            all_goals (go_ret2; first | exact ⟨0, false, rfl, HR.out, Kept.refl _ _⟩ | exact ⟨0, .inl ⟨rfl, HR.out, Kept.refl _ _⟩⟩)
        · have hgood : 48 ≤ c ∧ c ≤ 57 ∧ n ≤ 1099511627776 := by omega
          clear HBad hbad
          obtain ⟨hc1, hc2, hn2⟩ := hgood
          cases nb
          · go_wp2_with fail
            go_roundw
            case rel => exact ⟨k + 1, by omega, by go_num, by rw [HSt.out]; go_num, by rw [HSt.out]; omega, trivial⟩
            case measure => simp [intOf]; omega
          · have hk0 : k ≠ 0 := fun h0 => hb ⟨rfl, h0⟩
            clear hb
            go_wp2_with fail
            go_roundw
            case rel => exact ⟨k + 1, by omega, by go_num, by rw [HSt.out]; go_num, by rw [HSt.out]; omega, trivial⟩
            case measure => simp [intOf]; omega
    · obtain rfl : k = s.length := by omega
      have HNs := Lib.hid HN.out
      rw [List.take_length] at HNs
      obtain ⟨v, hv⟩ : ∃ v : Int, v = (if nb = true then -(n : Int) else (n : Int)) := ⟨_, rfl⟩
      have hv2 : v = if s.head? = some 45 then -(dval (s.drop (nf s)) : Int) else (dval (s.drop (nf s)) : Int) := by
        rw [HNs.out, hv]
        by_cases h : nb = true
        · rw [if_pos h, if_pos (HNB.out.1 h)]
        · rw [if_neg h, if_neg (fun e => h (HNB.out.2 e))]
      have hvi : InI64 v := by unfold InI64; rw [hv]; split <;> omega
      obtain ⟨tv, htv⟩ : ∃ u, (⟨(Lib.itoa v).toArray⟩ : ByteArray) = u := ⟨_, rfl⟩
      have HEnd : Hid (∀ b : Bool, (tv = ts → b = true) → NumRes s v b) := Lib.hid (fun b hb => num_end hv2 (by rw [HNs.out]; omega) (fun e => hb (by rw [← htv, ← HTs.out, e])))
      have HD := Lib.hid (ref_Decimal wr v hvi)
      unfold strV at HD
      rw [htv] at HD
      clear htv hv2
      cases nb
      · simp only [Bool.false_eq_true, if_false] at hv
        subst hv
        clear hvi
        go_wp2_with fail
        refine HD.out.mono ?_
        rintro e w1 ⟨rfl, hk1⟩
        have HK1 := Lib.hid hk1
        clear hk1
        go_wp2_with fail
        go_ret2
        exact ⟨_, _, rfl, HEnd.out _ (fun e => by rw [e]; simp), HK1.out⟩
      · simp only [if_true] at hv
        subst hv
        clear hvi
        go_wp2_with fail
        refine HD.out.mono ?_
        rintro e w1 ⟨rfl, hk1⟩
        have HK1 := Lib.hid hk1
        clear hk1
        go_wp2_with fail
        go_ret2
        exact ⟨_, _, rfl, HEnd.out _ (fun e => by rw [e]; simp), HK1.out⟩
end Go.Proofs.YthjiobmglebmdaaGreatDoor
