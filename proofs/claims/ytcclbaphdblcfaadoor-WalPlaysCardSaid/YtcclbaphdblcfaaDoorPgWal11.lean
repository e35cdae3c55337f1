/- The log: Read. -/
import Derived.Test.YtcclbaphdblcfaaDoorPgWal10
namespace Go.Proofs.YtcclbaphdblcfaaDoor
open Go.RowKit

set_option maxRecDepth 100000 in
set_option maxHeartbeats 4000000 in
theorem log_get (w : World) (b bd : Nat) (L : Wal.Lg) (R : Nat → Prop) (h : LogAt w b bd L R) (hs : L.first + L.recs.length ≤ 1000000000) (hrs : ∀ r ∈ L.recs, Wal.Rec r) (k : Nat) (hk1 : L.first ≤ k) (hk2 : k < L.first + L.recs.length) :
    Calls Tryd.prog 23 #[.pointer (some ⟨b, 0, none⟩), .int .i64 k] w (RetRead w (L.recs.getD (k - L.first) [])) := by
  have HF := Lib.hid (log_first w b bd L R h)
  have HLn := Lib.hid (log_len w b bd L R h hs)
  have HLg := Lib.hid h
  obtain ⟨rv, vs, hb, -, hr, hv, -⟩ := h
  obtain ⟨ra, rc, rfl, -⟩ := hr.shape
  have hvl := hv.1
  obtain ⟨j, hj⟩ : ∃ j, j = k - L.first := ⟨_, rfl⟩
  rw [← hj]
  have hjl : j < L.recs.length := by omega
  obtain ⟨bb, oo, x, rfl, hx, hc, -⟩ := hr.cell (i := j) (by omega)
  have hrow := hv.2 j x L.recs[j] hx (List.getElem?_eq_getElem hjl)
  have e : L.recs.getD j [] = L.recs[j] := by rw [List.getD_eq_getElem?_getD, List.getElem?_eq_getElem hjl]; rfl
  have hrec := hrs L.recs[j] (List.getElem_mem hjl)
  rw [e]
  obtain ⟨xa, xc, rfl, -⟩ := hrow.shape
  rw [hvl] at hb
  have c5 := cell_at hb 5 _ rfl
  have c7 := cell_at hb 7 _ rfl
  have hbl := cell_lt c5
  have HRow := Lib.hid hrow
  have HRec := Lib.hid hrec
  have a1 : decide (k < L.first) = false := by simp; omega
  have a2 : decide ((L.first : Int) + (L.recs.length : Int) ≤ (k : Int)) = false := by simp; omega
  have HCl := Lib.hid (fun W (q : Kept Nob w W) => clone_bytes W _ L.recs[j] R (hrow.kept q (fun _ _ f => f)) hrec.2 (by have := hrec.1; omega))
  have i2 : IntKind.i64.wrap ((k : Int) - (L.first : Int)) = (k : Int) - (L.first : Int) := IntWalk.i64_in _ (by omega)
  have i3 : ((k : Int) - (L.first : Int)).toNat = j := by omega
  have i4 : (0 : Int) ≤ (k : Int) - (L.first : Int) := by omega
  have i5 : (k : Int) - (L.first : Int) < (L.recs.length : Int) := by omega
  clear hb hr hv hrow hrec e hx hj hrs hvl
  generalize L.recs[j] = r at *
  go_enter Tryd.func23, Tryd.ntmps23
  go_wp2_with (first | (go_at_call 26; refine HF.out.mono ?_; rintro e w' ⟨rfl, rfl⟩) | (go_at_call 25; refine HLn.out.mono ?_; rintro e w1 ⟨rfl, n1, rfl⟩))
  go_region_held3 (fun w' => w'.cell? ⟨b, 5, none⟩ = some (.int .i64 L.first) ∧ w'.cell? ⟨b, 7, none⟩ = some (.slice (some ⟨bb, oo, none⟩) L.recs.length rc) ∧ w'.cell? ⟨bb, oo + j, none⟩ = some (.slice xa r.length xc)) (first | (go_keep; done) | (go_split_ands; exact ⟨‹_›, ‹_›, ‹_›⟩))
    ((go_at_call 36; refine (HCl.out _ (Kept.drewN Nob w _)).mono ?_; rintro e w3 ⟨b3, c3, rfl, ho3, hk3, -⟩;
      have q0 := (hk3.cell (p := ⟨b, 5, none⟩) hbl (fun f => f)).trans c5; have q1 := (hk3.cell (p := ⟨b, 7, none⟩) hbl (fun f => f)).trans c7; have q2 := (hk3.cell (p := ⟨bb, oo + j, none⟩) (cell_lt hc) (fun f => f)).trans hc; have HO3 := Lib.hid ho3; have HK3 := Lib.hid hk3; clear ho3 hk3))
  go_wp2_with fail
  go_ret2
  exact ⟨b3, c3, rfl, HO3.out, (Kept.drewN Nob w _).trans' HK3.out⟩
theorem log_get_bad (w : World) (b bd : Nat) (L : Wal.Lg) (R : Nat → Prop) (h : LogAt w b bd L R) (hs : L.first + L.recs.length ≤ 1000000000) (k : Int) (hk : k < L.first ∨ (L.first : Int) + (L.recs.length : Int) ≤ k) :
    Calls Tryd.prog 23 #[.pointer (some ⟨b, 0, none⟩), .int .i64 k] w (RetNoRead w opWal k 15) := by
  have HF := Lib.hid (log_first w b bd L R h)
  have HLn := Lib.hid (log_len w b bd L R h hs)
  have HC := fun w => Lib.hid (fault_new w opWal k 15)
  unfold opWal at HC
  clear h
  by_cases hneg : k < (L.first : Int)
  · clear hk
    go_enter Tryd.func23, Tryd.ntmps23
    go_wp2_with (first | (go_at_call 26; refine HF.out.mono ?_; rintro e w' ⟨rfl, rfl⟩) | (go_at_call 29; refine (HC _).out.mono ?_; rintro e w1 ⟨g1, rfl, ho1, hk1⟩))
    go_ret2
    exact ⟨g1, rfl, ho1, hk1⟩
  · have hge : (L.first : Int) + (L.recs.length : Int) ≤ k := by omega
    clear hk
    go_enter Tryd.func23, Tryd.ntmps23
    go_wp2_with (first | (go_at_call 26; refine HF.out.mono ?_; rintro e w' ⟨rfl, rfl⟩) | (go_at_call 25; refine HLn.out.mono ?_; rintro e w1 ⟨rfl, n1, rfl⟩) | (go_at_call 29; refine (HC _).out.mono ?_; rintro e w2 ⟨g1, rfl, ho1, hk1⟩))
    go_ret2
    exact ⟨g1, rfl, ho1.mono fun j _ hj => hj, (Kept.drewN Nob w n1).trans' hk1⟩
theorem log_get_nil (w : World) (k : Int) :
    Calls Tryd.prog 23 #[.pointer none, .int .i64 k] w (RetNoRead w opWal k 15) := by
  have HC := fun w => Lib.hid (fault_new w opWal k 15)
  unfold opWal at HC
  by_cases hneg : k < 0
  all_goals
    go_enter Tryd.func23, Tryd.ntmps23
    go_wp2_with (first | (go_at_call 26; refine (log_first_nil w).mono ?_; rintro e w' ⟨rfl, rfl⟩) | (go_at_call 25; refine (log_len_nil w).mono ?_; rintro e w' ⟨rfl, rfl⟩) | (go_at_call 29; refine (HC _).out.mono ?_; rintro e w2 ⟨g1, rfl, ho1, hk1⟩))
    go_ret2
    exact ⟨g1, rfl, ho1, hk1⟩
end Go.Proofs.YtcclbaphdblcfaaDoor
