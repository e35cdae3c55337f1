/- Law: WalNothing. -/
import Derived.Test.YtcclbaphdblcfaaDoorPgWal21
import Derived.Deep.DeepCutAuto
namespace Go.Proofs.YtcclbaphdblcfaaDoor
open Go.RowKit

/-- behind an Open that is refused -/
def RetNoOpen (w : World) (id code : Int) (en : Ending) (w' : World) : Prop :=
  ∃ g, en = .returned (.tuple #[.pointer none, .iface 76 (.pointer (some ⟨g, 0, none⟩))]) ∧ FaultAt w' (.iface 76 (.pointer (some ⟨g, 0, none⟩))) opWal id code (From w.heap.size) ∧ Kept Nob w w'
theorem log_open_nil (w : World) (frm til : Int) :
    Calls Tryd.prog 12 #[.pointer none, .int .i64 frm, .int .i64 til] w (RetNoOpen w frm 1) := by
  have HC := fun w => Lib.hid (fault_new w opWal frm 1)
  unfold opWal at HC
  go_enter Tryd.func12, Tryd.ntmps12
  go_wp2_with (go_at_call 29; refine (HC _).out.mono ?_; rintro e w2 ⟨g1, rfl, ho1, hk1⟩)
  go_ret2
  exact ⟨g1, rfl, ho1, hk1⟩
theorem log_open_bad (w : World) (bd : Nat) (d : Dsk) (F : Nat → Prop) (hD : DiskAt w bd d F) (frm til : Int) (hw : til ≤ 9223372036854775807) (hbad : frm < 0 ∨ til < 16 ∨ (d.good.length : Int) < til ∨ til - 16 < frm) :
    Calls Tryd.prog 12 #[.pointer (some ⟨bd, 0, none⟩), .int .i64 frm, .int .i64 til] w (RetNoOpen w frm 1) := by
  have HC := fun w => Lib.hid (fault_new w opWal frm 1)
  unfold opWal at HC
  have HLen := Lib.hid (disk_len w bd d F hD)
  clear hD
  by_cases h1 : frm < 0
  · clear hbad
    go_enter Tryd.func12, Tryd.ntmps12
    go_wp2_with (go_at_call 29; refine (HC _).out.mono ?_; rintro e w2 ⟨g1, rfl, ho1, hk1⟩)
    go_ret2
    exact ⟨g1, rfl, ho1, hk1⟩
  by_cases h2 : til < 16
  · clear hbad
    go_enter Tryd.func12, Tryd.ntmps12
    go_wp2_with (go_at_call 29; refine (HC _).out.mono ?_; rintro e w2 ⟨g1, rfl, ho1, hk1⟩)
    go_ret2
    exact ⟨g1, rfl, ho1, hk1⟩
  by_cases h3 : (d.good.length : Int) < til
  · clear hbad
    go_enter Tryd.func12, Tryd.ntmps12
    go_wp2_with (first | (go_at_call 31; refine HLen.out.mono ?_; rintro e w' ⟨rfl, rfl⟩) | (go_at_call 29; refine (HC _).out.mono ?_; rintro e w2 ⟨g1, rfl, ho1, hk1⟩))
    go_ret2
    exact ⟨g1, rfl, ho1, hk1⟩
  have h4 : til - 16 < frm := by omega
  clear hbad
  go_enter Tryd.func12, Tryd.ntmps12
  go_wp2_with (first | (go_at_call 31; refine HLen.out.mono ?_; rintro e w' ⟨rfl, rfl⟩) | (go_at_call 29; refine (HC _).out.mono ?_; rintro e w2 ⟨g1, rfl, ho1, hk1⟩))
  go_ret2
  exact ⟨g1, rfl, ho1, hk1⟩

/-- may a log be opened there? -/
def MayOpen (frm til : Int) : Prop := 0 ≤ frm ∧ frm ≤ 84 ∧ til ≤ 100 ∧ 16 ≤ til ∧ frm ≤ til - 16
instance (a b : Int) : Decidable (MayOpen a b) := by unfold MayOpen; infer_instance
/-- Open, on an own disk of 100 sectors -/
theorem open_hundred (w0 w : World) (bd : Nat) (F : Nat → Prop) (hD : DiskAt w bd (Dsk.fresh 100) F) (hF : ∀ x, F x → w0.heap.size ≤ x) (hk : Kept Nob w0 w) (frm til : Int) (hw : til ≤ 9223372036854775807) :
    Calls Tryd.prog 12 #[.pointer (some ⟨bd, 0, none⟩), .int .i64 frm, .int .i64 til] w fun e w' =>
      ∃ p f, e = .returned (.tuple #[.pointer p, f]) ∧ (MayOpen frm til → (∃ b, p = some ⟨b, 0, none⟩) ∧ f = .nilIface) ∧ (¬ MayOpen frm til → p = none ∧ FaultAt w' f opWal frm 1 (From w.heap.size)) ∧ Kept Nob w0 w' := by
  by_cases hm : MayOpen frm til
  · obtain ⟨h1, h2, h3, h4, h5⟩ := hm
    obtain ⟨a, rfl⟩ : ∃ a : Nat, frm = a := ⟨frm.toNat, by omega⟩
    obtain ⟨b, rfl⟩ : ∃ b : Nat, til = b := ⟨til.toNat, by omega⟩
    have hon := fresh_on 100 a b (by omega) (by omega)
    refine (log_open w bd (Dsk.fresh 100) F hD (Wal.Live.fresh 100) (by decide) a b (by omega) (by show b ≤ 100; omega) _ hon rfl rfl).mono fun e w' hop => ?_
    obtain ⟨lb, F2, R2, rfl, hU2, -, -, -⟩ := Up.opened (w0 := w0) (N := 0) (Wal.Live.fresh 100) hon (by decide) hk hF hop
    exact ⟨_, _, rfl, fun _ => ⟨⟨lb, rfl⟩, rfl⟩, fun h => absurd ⟨h1, h2, h3, h4, h5⟩ h, hU2.kept⟩
  · refine (log_open_bad w bd (Dsk.fresh 100) F hD frm til hw (by
      unfold MayOpen at hm
      have : (Dsk.fresh 100).good.length = 100 := by simp [Dsk.fresh]
      rw [this]
      omega)).mono fun e w' ⟨g, he, hf, hk'⟩ => ?_
    exact ⟨_, _, he, fun h => absurd h hm, fun _ => ⟨rfl, hf⟩, hk.then hk'⟩

theorem code_of {w : World} {v : Value} {op : ByteArray} {id code : Int} {F : Nat → Prop} (h : FaultAt w v op id code F) (h1 : 1 ≤ code) (h2 : code ≤ 15) :
    Calls Tryd.prog 24 #[v] w fun e w' => e = .returned (.int .i64 code) ∧ w = w' := by
  obtain ⟨g, rfl, -, -, hb⟩ := h
  exact code_fault w g code (cell_at hb 2 _ rfl) h1 h2

set_option maxRecDepth 100000 in
set_option maxHeartbeats 4000000 in
theorem nothing_any (w : World) (frm til k : Int) (hf1 : -9223372036854775808 ≤ frm) (hf2 : frm ≤ 9223372036854775807) (ht1 : -9223372036854775808 ≤ til) (ht2 : til ≤ 9223372036854775807) (hT : Typed w) :
    Calls Tryd.prog 5 #[.int .i64 frm, .int .i64 til, .int .i64 k] w (RetTrue w) := by
  have HT := Lib.hid hT
  clear hT
  go_enter Tryd.func5, Tryd.ntmps5
  go_wp2_with fail
  refine (disk_new w 100 (by omega) (by omega)).mono ?_
  rintro e w1 ⟨bd, rfl, hD1, hk1⟩
  have HOp := Lib.hid (open_hundred w w1 bd _ hD1 (fun x hx => hx.1) hk1 frm til ht2)
  clear hD1 hk1
  go_wp2_with fail
  refine HOp.out.mono ?_
  rintro e w2 ⟨p, f, rfl, hyes, hno, hk2⟩
  have HY := Lib.hid hyes
  have HN := Lib.hid hno
  have HK2 := Lib.hid hk2
  clear hyes hno hk2 HOp
  go_upto_region 5 with fail
  go_cut [11] (fun s11 wx => s11 = .bool (decide (MayOpen frm til)) ∧ wx = w2)
  case first =>
    by_cases q1 : 0 ≤ frm
    · by_cases q2 : frm ≤ 84
      · by_cases q3 : til ≤ 100
        · by_cases q4 : 16 ≤ til
          · by_cases q5 : frm ≤ til - 16
            · go_wp2_with fail
              go_meet
              exact ⟨by simp [MayOpen, q1, q2, q3, q4, q5], rfl⟩
            · go_wp2_with fail
              go_meet
              exact ⟨by rw [decide_eq_false fun h : MayOpen frm til => absurd h.2.2.2.2 (by omega)], rfl⟩
          · go_wp2_with fail
            go_meet
            exact ⟨by rw [decide_eq_false fun h : MayOpen frm til => absurd h.2.2.2.1 (by omega)], rfl⟩
        · go_wp2_with fail
          go_meet
          exact ⟨by rw [decide_eq_false fun h : MayOpen frm til => absurd h.2.2.1 (by omega)], rfl⟩
      · go_wp2_with fail
        go_meet
        exact ⟨by rw [decide_eq_false fun h : MayOpen frm til => absurd h.2.1 (by omega)], rfl⟩
    · go_wp2_with fail
      go_meet
      exact ⟨by rw [decide_eq_false fun h : MayOpen frm til => absurd h.1 (by omega)], rfl⟩
  case rest =>
    obtain ⟨rfl, rfl⟩ := hcut
    have HOn := Lib.hid (fun W => log_open_nil W 0 50)
    go_wp2_with fail
    refine (HOn.out _).mono ?_
    rintro e w3 ⟨g3, rfl, hf3, hk3⟩
    have HF3 := Lib.hid hf3
    have HK3 := Lib.hid (HK2.out.then hk3)
    have HN3 := Lib.hid (fun h => ((HN.out h).2.kept hk3 (fun _ _ f => f)))
    clear hf3 hk3 HOn
    have kc1 : (convert 47 47 (.slice (some ⟨w3.heap.size, 0, none⟩) 1 1)).run Tryd.prog (w3.alloc (.cells #[.int .u8 120] 5)) = .ok (.slice (some ⟨w3.heap.size, 0, none⟩) 1 1) (w3.alloc (.cells #[.int .u8 120] 5 (1, 2))) := Lib.run_convert_bytes_const w3 _ _ #[.int .u8 120] 1 1 Tryd.underlying47 Tryd.underlying5
    go_wp2_with fail
    clear kc1
    have ka := (Kept.alloc Nob w3 (.cells #[.int .u8 120] 5 (1, 2))).trans' (Kept.alloc Nob _ (.cells #[.slice (some ⟨w3.heap.size, 0, none⟩) 1 1] 47))
    have hb1 := (Kept.alloc Nob (w3.alloc (.cells #[.int .u8 120] 5 (1, 2))) (.cells #[.slice (some ⟨w3.heap.size, 0, none⟩) 1 1] 47)).block w3.heap.size (by simp) (fun f => f) |>.trans (heap_alloc_new w3 _)
    have hb2 := heap_alloc_new (w3.alloc (.cells #[.int .u8 120] 5 (1, 2))) (.cells #[.slice (some ⟨w3.heap.size, 0, none⟩) 1 1] 47)
    rw [show (w3.alloc (.cells #[.int .u8 120] 5 (1, 2))).heap.size = w3.heap.size + 1 from by simp] at hb2
    refine (log_append_nil _ _ [.slice (some ⟨w3.heap.size, 0, none⟩) 1 1] [[.int .u8 120]] (fun _ => True) (.inr ⟨w3.heap.size + 1, 0, 1, rfl, by simp, by simp, trivial, fun i v hi => ?_⟩) (ReadRows.single (.inr ⟨w3.heap.size, 0, 1, rfl, by simp, by simp; omega, trivial, fun i v hi => ?_⟩)) (by simp) (by simp) (by simp)).mono ?_
    · match i, hi with
      | 0, hi => simp at hi; subst hi; exact cell_at hb2 0 _ rfl
    · match i, hi with
      | 0, hi => simp at hi; subst hi; exact cell_at hb1 0 _ rfl
    clear hb1 hb2
    rintro e w4 ⟨g4, rfl, hf4, hk4⟩
    have k34 := ka.trans' hk4
    have HF4 := Lib.hid hf4
    have HK4 := Lib.hid (HK3.out.then k34)
    have HN4 := Lib.hid (fun h => ((HN3.out h).kept k34 (fun _ _ f => f)))
    have HF34 := Lib.hid (HF3.out.kept k34 (fun _ _ f => f))
    clear hf4 hk4 k34 ka HN3 HF3
    go_wp2_with fail
    refine (log_append_none w4 none none 0).mono ?_
    rintro e w5 ⟨g5, rfl, hf5, hk5⟩
    have HF5 := Lib.hid hf5
    have HK5 := Lib.hid (HK4.out.then hk5)
    have HN5 := Lib.hid (fun h => ((HN4.out h).kept hk5 (fun _ _ f => f)))
    have HF35 := Lib.hid (HF34.out.kept hk5 (fun _ _ f => f))
    have HF45 := Lib.hid (HF4.out.kept hk5 (fun _ _ f => f))
    clear hf5 hk5 HN4 HF34 HF4
    go_wp2_with fail
    refine (log_get_nil w5 k).mono ?_
    rintro e w6 ⟨g6, rfl, hf6, hk6⟩
    have HF6 := Lib.hid hf6
    have HK6 := Lib.hid (HK5.out.then hk6)
    have HN6 := Lib.hid (fun h => ((HN5.out h).kept hk6 (fun _ _ f => f)))
    have HF36 := Lib.hid (HF35.out.kept hk6 (fun _ _ f => f))
    have HF46 := Lib.hid (HF45.out.kept hk6 (fun _ _ f => f))
    have HF56 := Lib.hid (HF5.out.kept hk6 (fun _ _ f => f))
    clear hf6 hk6 HN5 HF35 HF45 HF5
    have HC3 := Lib.hid (fun W (q : Kept Nob w6 W) => code_of (HF36.out.kept q (fun _ _ f => f)) (by omega) (by omega))
    have HC4 := Lib.hid (fun W (q : Kept Nob w6 W) => code_of (HF46.out.kept q (fun _ _ f => f)) (by omega) (by omega))
    have HC5 := Lib.hid (fun W (q : Kept Nob w6 W) => code_of (HF56.out.kept q (fun _ _ f => f)) (by omega) (by omega))
    have HC6 := Lib.hid (fun W (q : Kept Nob w6 W) => code_of (HF6.out.kept q (fun _ _ f => f)) (by omega) (by omega))
    by_cases hm : MayOpen frm til
    · obtain ⟨⟨lb, rfl⟩, rfl⟩ := HY.out hm
      rw [show decide (MayOpen frm til) = true from decide_eq_true hm]
      have HKI := Lib.hid (Kept.refl Nob w6)
      clear hm
      go_wp2_with (first
        | (go_at_call 16; refine (is_none _ _ _).mono ?_; rintro e w' ⟨rfl, rfl⟩)
        | (go_at_call 24; (with_reducible refine (HC3.out _ HKI.out).mono ?_); rintro e w' ⟨rfl, rfl⟩)
        | (go_at_call 24; (with_reducible refine (HC4.out _ HKI.out).mono ?_); rintro e w' ⟨rfl, rfl⟩)
        | (go_at_call 24; (with_reducible refine (HC5.out _ HKI.out).mono ?_); rintro e w' ⟨rfl, rfl⟩)
        | (go_at_call 24; (with_reducible refine (HC6.out _ HKI.out).mono ?_); rintro e w' ⟨rfl, rfl⟩)
        | (go_at_call 20; refine (log_dead_nil _).mono ?_; rintro e w' ⟨rfl, rfl⟩)
        | (go_at_call 25; refine (log_len_nil _).mono ?_; rintro e w' ⟨rfl, rfl⟩)
        | (go_at_call 26; refine (log_first_nil _).mono ?_; rintro e w' ⟨rfl, rfl⟩)
        | (go_at_call 10; refine (awake13 _).mono ?_; rintro e w8 ⟨rfl, hk8⟩))
      go_ret
      exact ⟨rfl, (HK6.out.then HKI.out).then hk8⟩
    · obtain ⟨rfl, -⟩ := HN.out hm
      have hI := is_this w6 _ opWal frm 1 _ (HN6.out hm) (by omega) (by omega) (HT.out.kept HK6.out (fun f => f))
      unfold opWal at hI
      have HI := Lib.hid hI
      obtain ⟨gf, hgf, -⟩ := HN6.out hm
      subst hgf
      rw [show decide (MayOpen frm til) = false from decide_eq_false hm]
      clear hm hI
      go_wp2_with (first
        | (go_at_call 16; (with_reducible refine HI.out.mono ?_); rintro e w7 ⟨rfl, hk7⟩; have HKI := Lib.hid hk7; clear hk7)
        | (go_at_call 24; (with_reducible refine (HC3.out _ HKI.out).mono ?_); rintro e w' ⟨rfl, rfl⟩)
        | (go_at_call 24; (with_reducible refine (HC4.out _ HKI.out).mono ?_); rintro e w' ⟨rfl, rfl⟩)
        | (go_at_call 24; (with_reducible refine (HC5.out _ HKI.out).mono ?_); rintro e w' ⟨rfl, rfl⟩)
        | (go_at_call 24; (with_reducible refine (HC6.out _ HKI.out).mono ?_); rintro e w' ⟨rfl, rfl⟩)
        | (go_at_call 20; refine (log_dead_nil _).mono ?_; rintro e w' ⟨rfl, rfl⟩)
        | (go_at_call 25; refine (log_len_nil _).mono ?_; rintro e w' ⟨rfl, rfl⟩)
        | (go_at_call 26; refine (log_first_nil _).mono ?_; rintro e w' ⟨rfl, rfl⟩)
        | (go_at_call 10; refine (awake13 _).mono ?_; rintro e w8 ⟨rfl, hk8⟩))
      go_ret
      exact ⟨rfl, (HK6.out.then HKI.out).then hk8⟩
end Go.Proofs.YtcclbaphdblcfaaDoor
