/- The log: Append. -/
import Derived.Test.YtcclbaphdblcfaaDoorPgWal16
namespace Go.Proofs.YtcclbaphdblcfaaDoor
open Go.RowKit

/-- what a change of the log leaves in memory -/
def LogTo (w : World) (b bd : Nat) (d : Dsk) (F R : Nat → Prop) (L L' : Wal.Lg) (w' : World) : Prop :=
  ∃ d' F' R', DiskAt w' bd d' F' ∧ Grows F w.heap.size F' ∧ Kept (Por F (Just b)) w w' ∧ Stood d d' L L' ∧ LogAt w' b bd L' R' ∧ Grows R w.heap.size R' ∧ Disj R' F' ∧ ¬ F' b
theorem LogTo.back {w wr w' : World} {b bd : Nat} {d : Dsk} {F R : Nat → Prop} {L L' : Wal.Lg} (hk : Kept Nob w wr) (h : LogTo wr b bd d F (Por R (From w.heap.size)) L L' w') : LogTo w b bd d F R L L' w' := by
  obtain ⟨d', F', R', h1, h2, h3, h4, h5, h6, h7, h8⟩ := h
  have hs := hk.size
  refine ⟨d', F', R', h1, fun x hx => ?_, hk.nob.trans' h3, h4, h5, fun x hx => ?_, h7, h8⟩
  · rcases h2 x hx with q | q
    · exact .inl q
    · exact .inr (by omega)
  · rcases h6 x hx with (q | q) | q
    · exact .inl q
    · exact .inr q
    · exact .inr (by omega)
/-- behind an Append that is refused -/
def RetNoApp (w : World) (op : ByteArray) (id code : Int) (en : Ending) (w' : World) : Prop :=
  ∃ g, en = .returned (.tuple #[.int .i64 0, .iface 76 (.pointer (some ⟨g, 0, none⟩))]) ∧ FaultAt w' (.iface 76 (.pointer (some ⟨g, 0, none⟩))) op id code (From w.heap.size) ∧ Kept Nob w w'

theorem log_append_none (w : World) (p : Option Addr) (a : Option Addr) (c : Nat) :
    Calls Tryd.prog 15 #[.pointer p, .slice a 0 c] w (RetNoApp w opWal 0 1) := by
  have HC := fun w => Lib.hid (fault_new w opWal 0 1)
  unfold opWal at HC
  go_enter Tryd.func15, Tryd.ntmps15
  go_wp2_with (go_at_call 29; refine (HC _).out.mono ?_; rintro e w1 ⟨g1, rfl, ho1, hk1⟩)
  go_ret2
  exact ⟨g1, rfl, ho1, hk1⟩
theorem log_append_many (w : World) (p : Option Addr) (v : Value) (vs : List Value) (rs : List (List Value)) (G : Nat → Prop) (hv : Reads w v vs G) (hr : ReadRows w vs rs G) (hl : rs.length ≤ 1000000) (hm : ∀ r ∈ rs, r.length ≤ 1000000) (hn : 0 < rs.length) (hbad : 40 < rs.length ∨ ∃ r ∈ rs, 1200 < r.length) :
    Calls Tryd.prog 15 #[.pointer p, v] w (RetNoApp w opWal 0 13) := by
  have HC := fun w => Lib.hid (fault_new w opWal 0 13)
  unfold opWal at HC
  have HCo := Lib.hid (contains_recs w v vs rs G hv hr hl hm)
  obtain ⟨a, c, rfl, -⟩ := hv.shape
  rw [hr.1] at HCo ⊢
  by_cases h40 : 40 < rs.length
  · clear hbad hv hr hm
    go_enter Tryd.func15, Tryd.ntmps15
    go_wp2_with (go_at_call 29; refine (HC _).out.mono ?_; rintro e w1 ⟨g1, rfl, ho1, hk1⟩)
    go_ret2
    exact ⟨g1, rfl, ho1, hk1⟩
  · have hb : decide (0 ≤ longAt rs 0) = true := by
      rcases hbad with h | ⟨r, h1, h2⟩
      · exact absurd h h40
      · simpa using longAt_some rs 0 r h1 h2
    rw [hb] at HCo
    clear hbad hv hr hm hb
    go_enter Tryd.func15, Tryd.ntmps15
    go_wp2_with (first | (go_at_call 34; refine HCo.out.mono ?_; rintro e w' ⟨rfl, rfl⟩) | (go_at_call 29; refine (HC _).out.mono ?_; rintro e w1 ⟨g1, rfl, ho1, hk1⟩))
    go_ret2
    exact ⟨g1, rfl, ho1, hk1⟩
theorem log_append_nil (w : World) (v : Value) (vs : List Value) (rs : List (List Value)) (G : Nat → Prop) (hv : Reads w v vs G) (hr : ReadRows w vs rs G) (hn : 0 < rs.length) (h40 : rs.length ≤ 40) (hm : ∀ r ∈ rs, r.length ≤ 1200) :
    Calls Tryd.prog 15 #[.pointer none, v] w (RetNoApp w opWal 0 9) := by
  have HC := fun w => Lib.hid (fault_new w opWal 0 9)
  unfold opWal at HC
  have HCo := Lib.hid (contains_recs w v vs rs G hv hr (by omega) (fun r h => by have := hm r h; omega))
  obtain ⟨a, c, rfl, -⟩ := hv.shape
  rw [hr.1] at HCo ⊢
  have hb : decide (0 ≤ longAt rs 0) = false := by rw [longAt_none rs 0 hm]; rfl
  rw [hb] at HCo
  clear hv hr hm hb
  go_enter Tryd.func15, Tryd.ntmps15
  go_wp2_with (first | (go_at_call 34; refine HCo.out.mono ?_; rintro e w' ⟨rfl, rfl⟩) | (go_at_call 20; refine (log_dead_nil w).mono ?_; rintro e w' ⟨rfl, rfl⟩) | (go_at_call 29; refine (HC _).out.mono ?_; rintro e w1 ⟨g1, rfl, ho1, hk1⟩))
  go_ret2
  exact ⟨g1, rfl, ho1, hk1⟩

set_option maxRecDepth 100000 in
set_option maxHeartbeats 4000000 in
theorem log_append (w : World) (b bd : Nat) (L : Wal.Lg) (R : Nat → Prop) (d : Dsk) (F : Nat → Prop) (h : LogAt w b bd L R) (hOn : Wal.On d.now L) (hD : DiskAt w bd d F) (hbF : ¬ F b) (hl : Wal.Live d) (hops : d.ops ≤ 1000000000000) (hRF : Disj R F)
    (v : Value) (vs : List Value) (rs : List (List Value)) (G : Nat → Prop) (hv : Reads w v vs G) (hr : ReadRows w vs rs G) (hrs : ∀ r ∈ rs, Wal.Rec r) (hn0 : 0 < rs.length) (hn : rs.length ≤ 40) (hsm : L.first + L.recs.length + rs.length ≤ 1000000000) :
    Calls Tryd.prog 15 #[.pointer (some ⟨b, 0, none⟩), v] w fun e w' =>
      (L.may rs = true → e = .returned (.tuple #[.int .i64 ((L.first + L.recs.length : Nat) : Int), .nilIface]) ∧ LogTo w b bd d F R L (L.grow rs) w') ∧ (L.may rs = false → RetNoApp w opWal 0 8 e w') := by
  have HC := fun w => Lib.hid (fault_new w opWal 0 8)
  unfold opWal at HC
  have HCo := Lib.hid (contains_recs w v vs rs G hv hr (by omega) (fun r h => by have := (hrs r h).1; omega))
  have HDd := Lib.hid (log_dead w b bd L R h)
  have HLn := Lib.hid (log_len w b bd L R h (by omega))
  obtain ⟨a, c, rfl, -⟩ := hv.shape
  have HVl := Lib.hid hr.1
  rw [hr.1] at HCo hv ⊢
  have hb : decide (0 ≤ longAt rs 0) = false := by rw [longAt_none rs 0 fun r h => (hrs r h).1]; rfl
  rw [hb] at HCo
  have HLg := Lib.hid h
  have HOn := Lib.hid hOn
  have HD := Lib.hid hD
  have HbF := Lib.hid hbF
  have HLv := Lib.hid hl
  have HRF := Lib.hid hRF
  have HV := Lib.hid hv
  have HR := Lib.hid hr
  have HRs := Lib.hid hrs
  have hnn : ¬ rs.length = 0 := by omega
  clear h hOn hD hbF hl hRF hv hr hrs hb
  go_enter Tryd.func15, Tryd.ntmps15
  go_wp2_with (first | (go_at_call 34; refine HCo.out.mono ?_; rintro e w' ⟨rfl, rfl⟩) | (go_at_call 20; refine HDd.out.mono ?_; rintro e w1 ⟨rfl, rfl⟩) | (go_at_call 25; refine HLn.out.mono ?_; rintro e w1 ⟨rfl, n1, rfl⟩))
  go_loopw [6, 35] (fun o i wr => ∃ k : Nat, k ≤ rs.length ∧ i = .int .i64 k ∧ CopRel w rs k o wr) (fun _ i _ => rs.length - (intOf i).toNat)
  case atStart => exact ⟨0, Nat.zero_le _, rfl, none, 0, [], rfl, rfl, Own.nil _ _ _, RowsAt.nil _ _ _, Kept.drewN Nob w n1⟩
  case round =>
    obtain ⟨k, hk, rfl, b0, c0, vs', rfl, hl', hrow, hrows, hw⟩ := hrel
    have HL' := Lib.hid hl'
    have HRow := Lib.hid hrow
    have HRows := Lib.hid hrows
    have HW := Lib.hid hw
    clear hl' hrow hrows hw
    by_cases hlt : k < rs.length
    · obtain ⟨bb, oo, x, rfl, hx, hc, -⟩ := HV.out.cell (i := k) (by rw [HVl.out]; exact hlt)
      have hrw := (HR.out.2 k x rs[k] hx (List.getElem?_eq_getElem hlt)).kept HW.out (fun _ _ f => f)
      obtain ⟨xa, xc, rfl, -⟩ := hrw.shape
      have hcc := (HW.out.cell (cell_lt hc) (fun f => f)).trans hc
      have hrc := HRs.out rs[k] (List.getElem_mem hlt)
      have HCl := Lib.hid (clone_bytes wr _ rs[k] G hrw hrc.2 (by have := hrc.1; omega))
      have hlx := hrc.1
      clear hx hc hrw hrc
      go_wp2_with (first
        | (go_at_call 36; refine HCl.out.mono ?_; rintro e w1 ⟨b1, cap1, rfl, ho1, hk1, -⟩; have HO1 := Lib.hid ho1; have HK1 := Lib.hid hk1; clear ho1 hk1)
        | (at_builtin; refine wpList_append1_pg rfl _ _ 34 rfl tRows (.slice b0 k c0) vs' (.slice b1 rs[k].length cap1) (From w.heap.size) ⟨w1.heap.size, 0, none⟩ 1 rfl rfl ((HRow.out.kept HK1.out (fun _ _ f => f)).alloc _) (by simp) rfl (Nat.le_refl _) rfl (by have := HL'.out; omega) ?_; intro g2 cap2 w2 ho2 hk2; have HO2 := Lib.hid ho2; have HK2 := Lib.hid hk2; clear ho2 hk2))
      have HST := Lib.hid (CopRel.step (xss := rs) (k := k) hlt HL'.out HRow.out HRows.out HW.out HO1.out HK1.out HO2.out HK2.out)
      go_roundw
      case rel => exact ⟨k + 1, by omega, by go_num, HST.out⟩
      case measure => simp [intOf]; omega
    · have hkn : k = rs.length := by omega
      subst hkn
      have hrows := HRows.out
      rw [List.take_of_length_le (Nat.le_refl _)] at hrows
      have HAd := Lib.hid (log_add wr b bd L R d F (HLg.out.kept HW.out (fun f => f) (fun _ _ f => f)) HOn.out (HD.out.kept HW.out (fun _ _ f => f)) HbF.out HLv.out hops HRF.out (.slice b0 rs.length c0) vs' rs (fun x => w.heap.size ≤ x ∧ x < wr.heap.size) (HRow.out.reads.mono fun x hx h => ⟨h, hx⟩) (hrows.read.mono fun x hx h => ⟨h, hx⟩) HRs.out hn hsm
        (fun h => by have := HLg.out.lt; omega) (fun x h q => by have := HD.out.under x q; omega) (fun x h => h.2))
      clear hrows HCo HDd HLn
      by_cases hmay : L.may rs = true
      · have HAe := Lib.hid (HAd.out.mono fun e w' h => h.1 hmay)
        clear HAd
        go_wp2_with (go_at_call 37; refine HAe.out.mono ?_; rintro e w6 ⟨rfl, hfin⟩)
        go_ret2
        refine ⟨fun _ => ⟨rfl, ?_⟩, fun q => by rw [hmay] at q; cases q⟩
        obtain ⟨d', F', R', q1, q2, q3, q4, q5, q6, q7, q8⟩ := hfin
        exact LogTo.back HW.out ⟨d', F', R', q1, q2, q3, q4, q5, fun x hx => (q6 x hx).imp (fun q => q.imp id (fun q => q.1)) id, q7, q8⟩
      · have hmf : L.may rs = false := by simpa using hmay
        have HAe := Lib.hid (HAd.out.mono fun e w' h => h.2 hmf)
        clear HAd hmay
        go_wp2_with (first | (go_at_call 37; refine HAe.out.mono ?_; rintro e w6 ⟨rfl, hk6⟩) | (go_at_call 29; refine (HC _).out.mono ?_; rintro e w7 ⟨g1, rfl, ho1, hk1⟩))
        go_ret2
        have k6 := HW.out.then hk6
        exact ⟨(fun q => by rw [hmf] at q; cases q), fun _ => ⟨g1, rfl, ho1.mono fun x _ hx => Nat.le_trans k6.size hx, k6.then hk1⟩⟩
end Go.Proofs.YtcclbaphdblcfaaDoor
