/- Law: WalTurns. -/
import Derived.Test.YtcclbaphdblcfaaDoorPgWal23
namespace Go.Proofs.YtcclbaphdblcfaaDoor
open Go.RowKit

/-- inside WalTurns: k turns are done -/
def TurnRel (w : World) (n b bd m k : Nat) (wr : World) : Prop :=
  ∃ (d : Dsk) (L : Wal.Lg) (F R X : Nat → Prop) (first : Nat) (all : List (List Value)) (N : Nat), Duo w wr b bd m d L F R X first all N ∧ N ≤ 1 + 40000 * k ∧ Tells L first all ∧ L.frm = 0 ∧ L.half = 31 ∧ all.length = k * n ∧ (∀ r ∈ all, r.length ≤ 400)

set_option maxRecDepth 100000 in
set_option maxHeartbeats 4000000 in
theorem turns_any (w : World) (n size turns : Int) (hT : Typed w) :
    Calls Tryd.prog 4 #[.int .i64 n, .int .i64 size, .int .i64 turns] w (RetTrue w) := by
  by_cases g0 : n < 1
  · go_enter Tryd.func4, Tryd.ntmps4
    go_wp2_with (go_at_call 10; refine (awake13 _).mono ?_; rintro e w' ⟨rfl, hk⟩)
    go_ret
    exact ⟨rfl, hk⟩
  by_cases g1 : 20 < n
  · go_enter Tryd.func4, Tryd.ntmps4
    go_wp2_with (go_at_call 10; refine (awake13 _).mono ?_; rintro e w' ⟨rfl, hk⟩)
    go_ret
    exact ⟨rfl, hk⟩
  by_cases g2 : size < 0
  · go_enter Tryd.func4, Tryd.ntmps4
    go_wp2_with (go_at_call 10; refine (awake13 _).mono ?_; rintro e w' ⟨rfl, hk⟩)
    go_ret
    exact ⟨rfl, hk⟩
  by_cases g3 : 400 < size
  · go_enter Tryd.func4, Tryd.ntmps4
    go_wp2_with (go_at_call 10; refine (awake13 _).mono ?_; rintro e w' ⟨rfl, hk⟩)
    go_ret
    exact ⟨rfl, hk⟩
  by_cases g4 : turns < 1
  · go_enter Tryd.func4, Tryd.ntmps4
    go_wp2_with (go_at_call 10; refine (awake13 _).mono ?_; rintro e w' ⟨rfl, hk⟩)
    go_ret
    exact ⟨rfl, hk⟩
  by_cases g5 : 60 < turns
  · go_enter Tryd.func4, Tryd.ntmps4
    go_wp2_with (go_at_call 10; refine (awake13 _).mono ?_; rintro e w' ⟨rfl, hk⟩)
    go_ret
    exact ⟨rfl, hk⟩
  obtain ⟨n, rfl⟩ : ∃ a : Nat, n = a := ⟨n.toNat, by omega⟩
  obtain ⟨size, rfl⟩ : ∃ a : Nat, size = a := ⟨size.toNat, by omega⟩
  obtain ⟨turns, rfl⟩ : ∃ a : Nat, turns = a := ⟨turns.toNat, by omega⟩
  have hn1 : 1 ≤ n := by omega
  have hn2 : n ≤ 20 := by omega
  have hsz : size ≤ 400 := by omega
  have htu : turns ≤ 60 := by omega
  have HT := Lib.hid hT
  clear hT
  go_enter Tryd.func4, Tryd.ntmps4
  go_wp2_with fail
  refine (disk_new w 64 (by omega) (by omega)).mono ?_
  rintro e w1 ⟨bd, rfl, hD1, hk1⟩
  have hop := log_open w1 bd (Dsk.fresh 64) _ hD1 (Wal.Live.fresh 64) (by decide) 0 64 (by omega) (by decide) _ (fresh_on 64 0 64 (by omega) (by omega)) rfl rfl
  have HOp := Lib.hid (show Calls Tryd.prog 12 #[.pointer (some ⟨bd, 0, none⟩), .int .i64 0, .int .i64 64] w1 _ from hop)
  have HK1 := Lib.hid hk1
  clear hD1 hk1 hop
  go_wp2_with fail
  refine HOp.out.mono ?_
  rintro e w2 hop
  obtain ⟨b, F2, R2, rfl, hU2, -, -, -⟩ := Up.opened (w0 := w) (N := 0) (Wal.Live.fresh 64) (fresh_on 64 0 64 (by omega) (by omega)) (by decide) HK1.out (fun x hx => hx.1) hop
  rw [show ((64 - 0 - 1) / 2 : Nat) = 31 from rfl] at hU2
  generalize (Dsk.fresh 64).sync.1 = d2 at hU2
  have HU2 := Lib.hid hU2
  clear hop hU2 HOp
  have HR0 : Hid (TurnRel w n b bd w2.heap.size 0 (w2.alloc (.cells #[.int .i64 0, .slice none 0 0] 36))) := by
    exact Lib.hid ⟨d2, _, F2, R2, fun _ => False, 0, [], 1, Duo.start HU2.out, by omega, Tells.none 0 31, rfl, rfl, by simp, fun r h => by cases h⟩
  clear HU2
  go_wp2_with fail
  go_loopw [12] (fun i wr => ∃ k : Nat, k ≤ turns ∧ i = .int .i64 k ∧ TurnRel w n b bd w2.heap.size k wr) (fun i _ => turns - (intOf i).toNat)
  case atStart => exact ⟨0, Nat.zero_le _, rfl, HR0.out⟩
  case round =>
    clear HR0
    obtain ⟨k, hk, rfl, d, L, F, R, X, first, all, N, hdu, hN, htl, hfr, hha, hal, hrl⟩ := hrel
    generalize w2.heap.size = m at *
    have hle := htl.le
    have hall : all.length ≤ 1200 := by rw [hal]; exact Nat.mul_le_mul (Nat.le_trans hk htu) hn2
    obtain ⟨av, vs0, hb, hav, hvs, -, -⟩ := hdu.x.plain
    obtain ⟨aa0, ac0, rfl, -⟩ := hav.reads.shape
    have c1 : wr.cell? ⟨m, 1, none⟩ = some (.slice aa0 all.length ac0) := by rw [← hvs.1]; exact cell_at hb 1 _ rfl
    have HDU := Lib.hid hdu
    have HTl := Lib.hid htl
    have HH := Lib.hid hha
    have HFr := Lib.hid hfr
    have HAl := Lib.hid hal
    have HRl0 := Lib.hid hrl
    have HN := Lib.hid hN
    clear hdu htl hfr hha hal hrl hb hav hvs hN
    by_cases hlt : k < turns
    · go_wp2_with fail
      refine (recs_any wr all.length n size (by omega) (by omega) (by omega)).mono ?_
      rintro e w1 ⟨vb, vc, rfl, ho1, hk1⟩
      have hRl := recRows_length all.length n size
      have hRs : ∀ r ∈ recRows all.length n size, r.length ≤ 400 ∧ ∀ u ∈ r, IsByte u := fun r hr => by
        simp only [recRows, List.mem_map] at hr
        obtain ⟨i, -, rfl⟩ := hr
        exact ⟨by rw [blockRow_length]; exact hsz, blockRow_bytes _ _⟩
      generalize recRows all.length n size = rs at ho1 hRl hRs
      have HRl := Lib.hid hRl
      have HRs := Lib.hid (fun r hr => (hRs r hr).1 : ∀ r ∈ rs, r.length ≤ 400)
      have HRc := Lib.hid (fun r hr => ⟨by have := (hRs r hr).1; omega, (hRs r hr).2⟩ : ∀ r ∈ rs, Wal.Rec r)
      obtain ⟨us, hS1⟩ := Side.fresh HDU.out hk1 ho1
      have HD1 := Lib.hid (HDU.out.nob hk1)
      have HS1 := Lib.hid hS1
      have d1 := (hk1.cell (cell_lt c1) (fun f => f)).trans c1
      clear hRl hRs ho1 hk1 hS1 HDU c1
      by_cases hroom : Roomy (all.drop first) rs 64
      · have HRoom5 := Lib.hid hroom
        have hrm := room_any w1 m first all X HD1.out.x hle (by omega) (fun r hr => by have := HRl0.out r hr; omega) _ us rs _ HS1.out.v HS1.out.rows (by rw [HRl.out]; omega) (fun r hr => by have := HRs.out r hr; omega) 64 (by omega)
        rw [decide_eq_true hroom] at hrm
        have HRm0 := Lib.hid (show Calls Tryd.prog 17 #[.pointer (some ⟨m, 0, none⟩), .slice vb n vc, .int .i64 64] w1 (fun e w' => e = .returned (.bool true) ∧ Kept Nob w1 w') from hrm.mono fun e w' ⟨h1, nn, h2⟩ => ⟨h1, h2 ▸ Kept.drewN Nob w1 nn⟩)
        clear hroom hrm
        go_wp2_with fail
        refine HRm0.out.mono ?_
        rintro e w5 ⟨rfl, hk5⟩
        have HD5 := Lib.hid (HD1.out.nob hk5)
        have HSd5 := Lib.hid (HS1.out.nob hk5)
        have c1 := (hk5.cell (cell_lt d1) (fun f => f)).trans d1
        have HTl5 := HTl
        have HH5 := HH
        have HF5 := HFr
        have HN5 : Hid (N ≤ 1 + 40000 * k + 20000) := Lib.hid (by have := HN.out; omega)
        clear hk5 HD1 HS1 d1 HRm0
        have hroom : decide (Roomy (all.drop first) rs 64) = true := decide_eq_true HRoom5.out
        have hrm := room_any w5 m first all X HD5.out.x HTl5.out.le (by omega) (fun r hr => by have := HRl0.out r hr; omega) _ us rs _ HSd5.out.v HSd5.out.rows (by rw [HRl.out]; omega) (fun r hr => by have := HRs.out r hr; omega) 64 (by omega)
        rw [hroom] at hrm
        have HRm := Lib.hid (show Calls Tryd.prog 17 #[.pointer (some ⟨m, 0, none⟩), .slice vb n vc, .int .i64 64] w5 (fun e w' => e = .returned (.bool true) ∧ Kept Nob w5 w') from hrm.mono fun e w' ⟨h1, nn, h2⟩ => ⟨h1, h2 ▸ Kept.drewN Nob w5 nn⟩)
        clear hrm hroom
        go_wp2_with (go_at_call 17; refine HRm.out.mono ?_; rintro e w6 ⟨rfl, hk6⟩)
        have hD6 := HD5.out.nob hk6
        have hS6 := HSd5.out.nob hk6
        have hap := hD6.append hS6 HTl5.out HRc.out (by rw [HRl.out]; omega) (by rw [HRl.out]; omega) (by rw [HRl.out]; omega) (by have := HN5.out; omega) (Roomy.may (frm := 0) (til := 64) (by rw [HTl5.out.recs]; exact HRoom5.out) HH5.out (by omega))
        refine hap.mono ?_
        rintro e w7 ⟨rfl, d7, F7, R7, hD7, hS7, -⟩
        clear hap hD6 hS6 hk6 HRm
        obtain ⟨av, vs1, Y, hb7, hav7, hvs7, -, -⟩ := hD7.x
        obtain ⟨aa, ac, rfl, -⟩ := hav7.reads.shape
        have hl7 := hvs7.1
        have c17 : w7.cell? ⟨m, 1, none⟩ = some (.slice aa vs1.length ac) := cell_at hb7 1 _ rfl
        have hl7' : (vs1.length : Int) = (all.length : Int) := by rw [hl7]
        have HD7 := Lib.hid hD7
        have HS7 := Lib.hid hS7
        have HB7 := Lib.hid hb7
        have HAv7 := Lib.hid hav7
        have HVs7 := Lib.hid hvs7
        have HL7 := Lib.hid hl7
        have HU := Lib.hid (hS7.rows.1.trans HRl.out)
        have HMl := Lib.hid hD7.x.lt
        clear hD7 hS7 hb7 hav7 hvs7 hl7 c1
        go_wp2_with (at_builtin; refine wpList_append_pg rfl _ _ 34 rfl tRows (.slice aa vs1.length ac) (.slice vb n vc) vs1 us _ _ rfl rfl HAv7.out HS7.out.v HS7.out.rows.one (by have h1 := HL7.out; have h2 := HU.out; omega) ?_; intro b8 c8 w8 ho8 hk8 _; have hb8 := (hk8.block m HMl.out (fun q => (HD7.out.x.notM) (HAv7.out.2 m q).1)).trans HB7.out; have c18 : w8.cell? ⟨m, 1, none⟩ = some (.slice aa vs1.length ac) := cell_at hb8 1 _ rfl; have f18 : w8.frozen? ⟨m, 1, none⟩ = false := frozen_at hb8 1; have HO8 := Lib.hid ho8; have HK8 := Lib.hid hk8; clear ho8 hk8 hb8)
        have hDn := Duo.more HD7.out HB7.out HAv7.out HVs7.out HS7.out HRc.out HO8.out HK8.out
        have hnew : Hid (TurnRel w n b bd m (k + 1) (w8.setCell ⟨m, 1, none⟩ (.slice b8 (vs1.length + us.length) c8))) := by
          refine Lib.hid ⟨d7, _, F7, R7, _, first, all ++ rs, _, hDn, by have := HN5.out; omega, HTl5.out.grow rs, (Wal.grow_frm _ _).trans HF5.out, (Wal.grow_half _ _).trans HH5.out, ?_, fun r hr => ?_⟩
          · rw [List.length_append, HRl.out, HAl.out, Nat.add_mul, Nat.one_mul]
          · rcases List.mem_append.1 hr with q | q
            · exact HRl0.out r q
            · exact HRs.out r q
        clear hDn
        go_roundw
        case rel => exact ⟨k + 1, by omega, by go_num, hnew.out⟩
        case measure => simp [intOf]; omega
      · have hrm := room_any w1 m first all X HD1.out.x hle (by omega) (fun r hr => by have := HRl0.out r hr; omega) _ us rs _ HS1.out.v HS1.out.rows (by rw [HRl.out]; omega) (fun r hr => by have := HRs.out r hr; omega) 64 (by omega)
        rw [decide_eq_false hroom] at hrm
        have HRm0 := Lib.hid (show Calls Tryd.prog 17 #[.pointer (some ⟨m, 0, none⟩), .slice vb n vc, .int .i64 64] w1 (fun e w' => e = .returned (.bool false) ∧ Kept Nob w1 w') from hrm.mono fun e w' ⟨h1, nn, h2⟩ => ⟨h1, h2 ▸ Kept.drewN Nob w1 nn⟩)
        clear hroom hrm
        go_wp2_with fail
        refine HRm0.out.mono ?_
        rintro e w3 ⟨rfl, hk3⟩
        have hD3 := HD1.out.nob hk3
        have hS3 := HS1.out.nob hk3
        have c1 := (hk3.cell (cell_lt d1) (fun f => f)).trans d1
        have HTr := Lib.hid (hD3.trim HTl.out (by have := HN.out; omega) all.length hle (Nat.le_refl _))
        have HS3 := Lib.hid hS3
        clear hk3 HD1 HS1 d1 HRm0 hD3 hS3
        go_wp2_with fail
        refine HTr.out.mono ?_
        rintro e w4 ⟨rfl, d4, F4, R4, hD4, hS4, -⟩
        have hS4 := hS4 _ _ _ _ HS3.out
        obtain ⟨av4, vs4, hb4, hav4, hvs4, -, -⟩ := hD4.x.plain
        obtain ⟨aa4, ac4, rfl, -⟩ := hav4.reads.shape
        have c04 : w4.cell? ⟨m, 0, none⟩ = some (.int .i64 first) := cell_at hb4 0 _ rfl
        have c1 : w4.cell? ⟨m, 1, none⟩ = some (.slice aa4 all.length ac4) := by rw [← hvs4.1]; exact cell_at hb4 1 _ rfl
        have f04 : w4.frozen? ⟨m, 0, none⟩ = false := frozen_at hb4 0
        have HD5 := Lib.hid (hD4.turn all.length)
        have HSd5 := Lib.hid (hS4.turn 0 (.int .i64 all.length))
        have HTl5 := Lib.hid (HTl.out.trim hle (Nat.le_refl _))
        have HH5 : Hid ((L.trim all.length).half = 31) := HH
        have HF5 : Hid ((L.trim all.length).frm = 0) := HFr
        have HN5 : Hid (N + 20000 ≤ 1 + 40000 * k + 20000) := Lib.hid (by have := HN.out; omega)
        clear hD4 hS4 hb4 hav4 hvs4 HTr HS3
        by_cases hroom2 : Roomy (all.drop all.length) rs 64
        · have HRoom5 := Lib.hid hroom2
          clear hroom2
          have hroom : decide (Roomy (all.drop all.length) rs 64) = true := decide_eq_true HRoom5.out
          have hrm := room_any (w4.setCell ⟨m, 0, none⟩ (.int .i64 all.length)) m all.length all X HD5.out.x HTl5.out.le (by omega) (fun r hr => by have := HRl0.out r hr; omega) _ us rs _ HSd5.out.v HSd5.out.rows (by rw [HRl.out]; omega) (fun r hr => by have := HRs.out r hr; omega) 64 (by omega)
          rw [hroom] at hrm
          have HRm := Lib.hid (show Calls Tryd.prog 17 #[.pointer (some ⟨m, 0, none⟩), .slice vb n vc, .int .i64 64] (w4.setCell ⟨m, 0, none⟩ (.int .i64 all.length)) (fun e w' => e = .returned (.bool true) ∧ Kept Nob (w4.setCell ⟨m, 0, none⟩ (.int .i64 all.length)) w') from hrm.mono fun e w' ⟨h1, nn, h2⟩ => ⟨h1, h2 ▸ Kept.drewN Nob (w4.setCell ⟨m, 0, none⟩ (.int .i64 all.length)) nn⟩)
          clear hrm hroom
          go_wp2_with (go_at_call 17; refine HRm.out.mono ?_; rintro e w6 ⟨rfl, hk6⟩)
          have hD6 := HD5.out.nob hk6
          have hS6 := HSd5.out.nob hk6
          have hap := hD6.append hS6 HTl5.out HRc.out (by rw [HRl.out]; omega) (by rw [HRl.out]; omega) (by rw [HRl.out]; omega) (by have := HN5.out; omega) (Roomy.may (frm := 0) (til := 64) (by rw [HTl5.out.recs]; exact HRoom5.out) HH5.out (by omega))
          refine hap.mono ?_
          rintro e w7 ⟨rfl, d7, F7, R7, hD7, hS7, -⟩
          clear hap hD6 hS6 hk6 HRm
          obtain ⟨av, vs1, Y, hb7, hav7, hvs7, -, -⟩ := hD7.x
          obtain ⟨aa, ac, rfl, -⟩ := hav7.reads.shape
          have hl7 := hvs7.1
          have c17 : w7.cell? ⟨m, 1, none⟩ = some (.slice aa vs1.length ac) := cell_at hb7 1 _ rfl
          have hl7' : (vs1.length : Int) = (all.length : Int) := by rw [hl7]
          have HD7 := Lib.hid hD7
          have HS7 := Lib.hid hS7
          have HB7 := Lib.hid hb7
          have HAv7 := Lib.hid hav7
          have HVs7 := Lib.hid hvs7
          have HL7 := Lib.hid hl7
          have HU := Lib.hid (hS7.rows.1.trans HRl.out)
          have HMl := Lib.hid hD7.x.lt
          clear hD7 hS7 hb7 hav7 hvs7 hl7 c1
          go_wp2_with (at_builtin; refine wpList_append_pg rfl _ _ 34 rfl tRows (.slice aa vs1.length ac) (.slice vb n vc) vs1 us _ _ rfl rfl HAv7.out HS7.out.v HS7.out.rows.one (by have h1 := HL7.out; have h2 := HU.out; omega) ?_; intro b8 c8 w8 ho8 hk8 _; have hb8 := (hk8.block m HMl.out (fun q => (HD7.out.x.notM) (HAv7.out.2 m q).1)).trans HB7.out; have c18 : w8.cell? ⟨m, 1, none⟩ = some (.slice aa vs1.length ac) := cell_at hb8 1 _ rfl; have f18 : w8.frozen? ⟨m, 1, none⟩ = false := frozen_at hb8 1; have HO8 := Lib.hid ho8; have HK8 := Lib.hid hk8; clear ho8 hk8 hb8)
          have hDn := Duo.more HD7.out HB7.out HAv7.out HVs7.out HS7.out HRc.out HO8.out HK8.out
          have hnew : Hid (TurnRel w n b bd m (k + 1) (w8.setCell ⟨m, 1, none⟩ (.slice b8 (vs1.length + us.length) c8))) := by
            refine Lib.hid ⟨d7, _, F7, R7, _, all.length, all ++ rs, _, hDn, by have := HN5.out; omega, HTl5.out.grow rs, (Wal.grow_frm _ _).trans HF5.out, (Wal.grow_half _ _).trans HH5.out, ?_, fun r hr => ?_⟩
            · rw [List.length_append, HRl.out, HAl.out, Nat.add_mul, Nat.one_mul]
            · rcases List.mem_append.1 hr with q | q
              · exact HRl0.out r q
              · exact HRs.out r q
          clear hDn
          go_roundw
          case rel => exact ⟨k + 1, by omega, by go_num, hnew.out⟩
          case measure => simp [intOf]; omega
        · have hrm := room_any (w4.setCell ⟨m, 0, none⟩ (.int .i64 all.length)) m all.length all X HD5.out.x (Nat.le_refl _) (by omega) (fun r hr => by have := HRl0.out r hr; omega) _ us rs _ HSd5.out.v HSd5.out.rows (by rw [HRl.out]; omega) (fun r hr => by have := HRs.out r hr; omega) 64 (by omega)
          rw [decide_eq_false hroom2] at hrm
          have HRm0 := Lib.hid (show Calls Tryd.prog 17 #[.pointer (some ⟨m, 0, none⟩), .slice vb n vc, .int .i64 64] (w4.setCell ⟨m, 0, none⟩ (.int .i64 all.length)) (fun e w' => e = .returned (.bool false) ∧ Kept Nob (w4.setCell ⟨m, 0, none⟩ (.int .i64 all.length)) w') from hrm.mono fun e w' ⟨h1, nn, h2⟩ => ⟨h1, h2 ▸ Kept.drewN Nob _ nn⟩)
          clear hroom2 hrm
          go_wp2_with (first
            | (go_at_call 17; refine HRm0.out.mono ?_; rintro e w6 ⟨rfl, hk6⟩; have HK6 := Lib.hid hk6; clear hk6)
            | (go_at_call 10; refine (awake13 _).mono ?_; rintro e w7 ⟨rfl, hk7⟩))
          go_ret
          exact ⟨rfl, (HD5.out.up.kept.then HK6.out).then hk7⟩
    · have HSm := Lib.hid (same_log wr m first all X HDU.out.x b bd L R HDU.out.up.log HTl.out (by omega) HDU.out.recs (HT.out.kept HDU.out.up.kept (fun f => f)))
      clear c1
      go_wp2_with (first
        | (go_at_call 19; refine HSm.out.mono ?_; rintro e w5 ⟨rfl, hk5⟩; have HK5 := Lib.hid hk5; clear hk5)
        | (go_at_call 10; refine (awake13 _).mono ?_; rintro e w6 ⟨rfl, hk6⟩))
      go_ret
      exact ⟨rfl, (HDU.out.up.kept.then HK5.out).then hk6⟩
end Go.Proofs.YtcclbaphdblcfaaDoor
