/- The laws of the log: room. -/
import Derived.Test.YtcclbaphdblcfaaDoorPgWal19
namespace Go.Proofs.YtcclbaphdblcfaaDoor
open Go.RowKit

/-- what records weigh by the page -/
def heft : List (List Value) → Nat
  | [] => 0
  | r :: l => r.length + 32 + heft l
theorem heft_append (a b : List (List Value)) : heft (a ++ b) = heft a + heft b := by
  induction a with
  | nil => simp [heft]
  | cons r l ih => simp [heft, ih]; omega
theorem weight_heft (a : List (List Value)) : Wal.weight a ≤ heft a := by
  induction a with
  | nil => simp [heft, Wal.weight]
  | cons r l ih => simp only [heft, Wal.weight]; omega
theorem heft_le (l : List (List Value)) (h : ∀ r ∈ l, r.length ≤ 1300) : heft l ≤ 1332 * l.length := by
  induction l with
  | nil => simp [heft]
  | cons r l ih =>
    have h1 := h r (by simp)
    have h2 := ih fun q hq => h q (by simp [hq])
    simp only [heft, List.length_cons]; omega
theorem heft_drop (l : List (List Value)) (k : Nat) (h : k < l.length) : heft (l.drop k) = l[k].length + 32 + heft (l.drop (k + 1)) := by
  rw [List.drop_eq_getElem_cons h]; rfl
/-- is there room by the page -/
def Roomy (rec rs : List (List Value)) (sectors : Nat) : Prop := 2 * (heft rec + heft rs) + 512 ≤ 64 * sectors
instance (a b : List (List Value)) (n : Nat) : Decidable (Roomy a b n) := by unfold Roomy; infer_instance
theorem Roomy.may {L : Wal.Lg} {rs : List (List Value)} {frm til : Nat} (h : Roomy L.recs rs (til - frm)) (hh : L.half = (til - frm - 1) / 2) (hl : frm + 16 ≤ til) : L.may rs = true := by
  unfold Roomy at h
  have h1 := weight_heft L.recs
  have h2 := weight_heft rs
  simp only [Wal.Lg.may, Bool.or_eq_true, decide_eq_true_eq]
  right
  rw [Wal.weight_append, hh]
  omega

set_option maxHeartbeats 1000000 in
theorem room_any (w : World) (m first : Nat) (all : List (List Value)) (X : Nat → Prop) (hX : XAt w m first all X) (hf : first ≤ all.length) (hs : all.length ≤ 1000000) (hrec : ∀ r ∈ all, r.length ≤ 1300)
    (v : Value) (vs : List Value) (rs : List (List Value)) (G : Nat → Prop) (hv : Reads w v vs G) (hr : ReadRows w vs rs G) (hrl : rs.length ≤ 1000000) (hrs : ∀ r ∈ rs, r.length ≤ 1300) (sec : Nat) (hse : sec ≤ 100000) :
    Calls Tryd.prog 17 #[.pointer (some ⟨m, 0, none⟩), v, .int .i64 sec] w fun e w' => e = .returned (.bool (decide (Roomy (all.drop first) rs sec))) ∧ ∃ n, w' = w.drewN n := by
  obtain ⟨av, vs1, hb, hav, hvs, -, -⟩ := hX.plain
  have hvl := hvs.1
  obtain ⟨aa, ac, rfl, -⟩ := hav.reads.shape
  obtain ⟨va, vc, rfl, -⟩ := hv.shape
  rw [hvl] at hb hav
  rw [hr.1]
  have c0 : w.cell? ⟨m, 0, none⟩ = some (.int .i64 first) := cell_at hb 0 _ rfl
  have c1 : w.cell? ⟨m, 1, none⟩ = some (.slice aa all.length ac) := cell_at hb 1 _ rfl
  have HAv := Lib.hid hav.reads
  have HVs := Lib.hid hvs
  have HVl := Lib.hid hvl
  have HRec := Lib.hid hrec
  have HV := Lib.hid hv
  have HR := Lib.hid hr
  have HRl := Lib.hid hr.1
  have HRs := Lib.hid hrs
  have hA : heft (all.drop first) ≤ 1332 * 1000000 := by
    have := heft_le (all.drop first) fun r hr => hrec r (List.mem_of_mem_drop hr)
    have h2 : (all.drop first).length ≤ all.length := by rw [List.length_drop]; omega
    omega
  have hB : heft rs ≤ 1332 * 1000000 := by
    have := heft_le rs hrs
    omega
  clear hb hav hvs hvl hrec hv hr hrs
  go_enter Tryd.func17, Tryd.ntmps17
  go_wp2
  go_loop [7, 8] (fun n i => ∃ (k a : Nat), first ≤ k ∧ k ≤ all.length ∧ i = .int .i64 k ∧ n = .int .i64 a ∧ a + heft (all.drop k) = heft (all.drop first)) (fun n i => all.length - (intOf i).toNat)
  case atStart => exact ⟨first, 0, Nat.le_refl _, hf, rfl, rfl, by omega⟩
  case round =>
    obtain ⟨k, a, hk1, hk, rfl, rfl, hsum⟩ := hrel
    have HSum := Lib.hid hsum
    have hab : a ≤ 1332 * 1000000 := by omega
    clear hsum
    by_cases hlt : k < all.length
    · obtain ⟨bb, oo, x, rfl, hx, hc, -⟩ := HAv.out.cell (i := k) (by rw [HVl.out]; exact hlt)
      obtain ⟨xa, xc, rfl, -⟩ := (HVs.out.2 k x all[k] hx (List.getElem?_eq_getElem hlt)).shape
      have hm := HRec.out _ (List.getElem_mem hlt)
      have HD := Lib.hid (heft_drop all k hlt)
      clear hx
      generalize all[k].length = q at *
      have HN : Hid (a + q + 32 + heft (all.drop (k + 1)) = heft (all.drop first)) := by
        refine Lib.hid ?_
        have h1 := HSum.out
        have h2 := HD.out
        omega
      go_wp2
      go_round
      case rel => exact ⟨k + 1, a + q + 32, by omega, by omega, by go_num, by go_num, HN.out⟩
      case measure => simp [intOf]; omega
    · have hkl : k = all.length := by omega
      have HA2 : Hid (a = heft (all.drop first)) := by
        refine Lib.hid ?_
        have h1 := HSum.out
        rw [hkl, List.drop_of_length_le (Nat.le_refl _)] at h1
        exact h1
      go_wp2
      go_loop [7, 9] (fun n i => ∃ (k b : Nat), k ≤ rs.length ∧ i = .int .i64 k ∧ n = .int .i64 b ∧ b + heft (rs.drop k) = a + heft rs) (fun n i => rs.length - (intOf i).toNat)
      case atStart => exact ⟨0, a, Nat.zero_le _, rfl, rfl, rfl⟩
      case round =>
        clear hk1 hk hlt hkl
        obtain ⟨k, b, hk, rfl, rfl, hsum⟩ := hrel
        have HSum := Lib.hid hsum
        have hbb : b ≤ 2 * (1332 * 1000000) := by omega
        clear hsum
        by_cases hlt : k < rs.length
        · obtain ⟨bb, oo, x, rfl, hx, hc, -⟩ := HV.out.cell (i := k) (by rw [HRl.out]; exact hlt)
          obtain ⟨xa, xc, rfl, -⟩ := (HR.out.2 k x rs[k] hx (List.getElem?_eq_getElem hlt)).shape
          have hm := HRs.out _ (List.getElem_mem hlt)
          have HD := Lib.hid (heft_drop rs k hlt)
          clear hx
          generalize rs[k].length = q at *
          have HN : Hid (b + q + 32 + heft (rs.drop (k + 1)) = a + heft rs) := by
            refine Lib.hid ?_
            have h1 := HSum.out
            have h2 := HD.out
            omega
          go_wp2
          go_round
          case rel => exact ⟨k + 1, b + q + 32, by omega, by go_num, by go_num, HN.out⟩
          case measure => simp [intOf]; omega
        · have hkl : k = rs.length := by omega
          have hb2 : b = heft (all.drop first) + heft rs := by
            have h1 := HSum.out
            rw [hkl, List.drop_of_length_le (Nat.le_refl _)] at h1
            have h2 := HA2.out
            simp only [heft] at h1
            omega
          have HB2 := Lib.hid hb2
          clear hb2
          by_cases hR : 2 * b + 512 ≤ 64 * sec
          · have t : 2 * (b : Int) ≤ 64 * (sec : Int) - 512 := by omega
            go_wp2
            go_ret
            refine ⟨?_, 0, rfl⟩
            have : Roomy (all.drop first) rs sec := by unfold Roomy; have := HB2.out; omega
            simp [this]
          · have t : ¬ 2 * (b : Int) ≤ 64 * (sec : Int) - 512 := by omega
            go_wp2
            go_ret
            refine ⟨?_, 0, rfl⟩
            have : ¬ Roomy (all.drop first) rs sec := by unfold Roomy; have := HB2.out; omega
            simp [this]
end Go.Proofs.YtcclbaphdblcfaaDoor
