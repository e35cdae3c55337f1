/- Law: WalOpens. -/
import Derived.Test.YtcclbaphdblcfaaDoorPgWal27
namespace Go.Proofs.YtcclbaphdblcfaaDoor
open Go.RowKit

/-- inside WalOpens: k rounds are done -/
def OpensRel (w : World) (bd m k : Nat) (wr : World) : Prop :=
  ∃ (d : Dsk) (L : Wal.Lg) (F X : Nat → Prop) (first : Nat) (all : List (List Value)), Lie w wr bd m d L F X first all 0 ∧ Tells L first all ∧ L.frm = 0 ∧ L.half = 31 ∧ all.length = k ∧ (∀ r ∈ all, r.length ≤ 400) ∧ d.now.length = 64

set_option maxRecDepth 100000 in
set_option maxHeartbeats 4000000 in
theorem opens_any (w : World) (la : Option Addr) (lc : Nat) (l : List Int) (ka : Option Addr) (kc : Nat) (keep : List Bool) (torn : Int) (hl : Reads w (.slice la l.length lc) (l.map (Value.int .i64)) (fun _ => True)) (hkp : Reads w (.slice ka keep.length kc) (keep.map Value.bool) (fun _ => True)) (hT : Typed w) :
    Calls Tryd.prog 7 #[.slice la l.length lc, .slice ka keep.length kc, .int .i64 torn] w (RetTrue w) := by
  by_cases g0 : 20 < l.length
  · go_enter Tryd.func7, Tryd.ntmps7
    go_wp2_with (go_at_call 10; refine (awake13 _).mono ?_; rintro e w' ⟨rfl, hk⟩)
    go_ret
    exact ⟨rfl, hk⟩
  by_cases g1 : 30 < keep.length
  · go_enter Tryd.func7, Tryd.ntmps7
    go_wp2_with (go_at_call 10; refine (awake13 _).mono ?_; rintro e w' ⟨rfl, hk⟩)
    go_ret
    exact ⟨rfl, hk⟩
  have HT := Lib.hid hT
  have HL0 := Lib.hid hl
  have HKp := Lib.hid hkp
  clear hT hl hkp
  go_enter Tryd.func7, Tryd.ntmps7
  go_wp2_with fail
  refine (disk_new w 64 (by omega) (by omega)).mono ?_
  rintro e w1 ⟨bd, rfl, hD1, hk1⟩
  have HR0 : Hid (OpensRel w bd w1.heap.size 0 (w1.alloc (.cells #[.int .i64 0, .slice none 0 0] 36))) :=
    Lib.hid ⟨Dsk.fresh 64, _, _, fun _ => False, 0, [], Lie.start hD1 hk1 (fun x hx => hx.1) (fresh_on 64 0 64 (by omega) (by omega)), Tells.none 0 31, rfl, rfl, rfl, (fun r h => by cases h), by simp [Dsk.fresh]⟩
  clear hD1 hk1
  go_wp2_with fail
  go_loopw [7, 10] (fun dv i wr => ∃ (k bd : Nat), k ≤ l.length ∧ i = .int .i64 k ∧ dv = .pointer (some ⟨bd, 0, none⟩) ∧ OpensRel w bd w1.heap.size k wr) (fun _ i _ => l.length - (intOf i).toNat)
  case atStart => exact ⟨0, bd, Nat.zero_le _, rfl, rfl, HR0.out⟩
  case round =>
    clear HR0
    obtain ⟨k, bd, hk, rfl, rfl, d, L, F, X, first, all, hli, htl, hfr, hha, hal, hrl, hnl⟩ := hrel
    generalize w1.heap.size = m at *
    have hle := htl.le
    have hall : all.length ≤ 20 := by omega
    have hgl := hli.disk.wf.len
    have hop := log_open0 wr bd d F hli.disk hli.live (by have := hli.ops; omega) 64 (by omega) (by omega) L hli.on hfr (by rw [hha])
    have HOp := Lib.hid (show Calls Tryd.prog 12 #[.pointer (some ⟨bd, 0, none⟩), .int .i64 0, .int .i64 64] wr _ from hop)
    have HLi := Lib.hid hli
    have HTl := Lib.hid htl
    have HH := Lib.hid hha
    have HFr := Lib.hid hfr
    have HAl := Lib.hid hal
    have HRl0 := Lib.hid hrl
    have HNl := Lib.hid hnl
    clear hop hli htl hfr hha hal hrl hnl hgl
    by_cases hlt : k < l.length
    · go_wp2_with fail
      refine HOp.out.mono ?_
      rintro e w2 hop
      obtain ⟨b, F2, R2, rfl, hD2, hnow⟩ := HLi.out.opened hop
      have HNl2 := Lib.hid (show d.sync.1.now.length = 64 from by rw [hnow]; exact HNl.out)
      have HSm := Lib.hid (same_log w2 m first all X hD2.x b bd L R2 hD2.up.log HTl.out (by omega) hD2.recs (HT.out.kept hD2.up.kept (fun f => f)))
      have HD2 := Lib.hid hD2
      obtain ⟨v, hv, hcell⟩ : ∃ v, l[k]? = some v ∧ True := ⟨l[k], List.getElem?_eq_getElem hlt, trivial⟩
      clear hop hD2 hnow HOp hcell
      go_upto_region 13 with (go_at_call 19; refine HSm.out.mono ?_; rintro e w3 ⟨rfl, hk3⟩)
      have hD3 := HD2.out.nob hk3
      obtain ⟨av3, vs3, hb3, hav3, hvs3, -, -⟩ := hD3.x.plain
      obtain ⟨aa3, ac3, rfl, -⟩ := hav3.reads.shape
      have c1 : w3.cell? ⟨m, 1, none⟩ = some (.slice aa3 all.length ac3) := by rw [← hvs3.1]; exact cell_at hb3 1 _ rfl
      obtain ⟨lb, lo, x, hla, hx, hc, -⟩ := (HL0.out.kept hD3.up.kept (fun _ _ f => f)).cell (i := k) (by simpa using hlt)
      subst hla
      simp only [List.getElem?_map, hv, Option.map_some, Option.some.injEq] at hx
      subst hx
      obtain ⟨size, hsize⟩ : ∃ s : Nat, v % 100 = (s : Int) := ⟨(v % 100).toNat, by omega⟩
      have hsz : size < 100 := by omega
      have HRo := Lib.hid (fun W => round_any W v 100 (by omega) (by omega))
      rw [hsize] at HRo
      have HRc := Lib.hid (fun W (q : Kept Nob w3 W) => (show Calls Tryd.prog 14 #[.int .i64 all.length, .int .i64 1, .int .i64 size] W _ from recs_any W all.length 1 size (by omega) (by omega) (by omega)))
      have HD3 := Lib.hid hD3
      have hm3 : m < w3.heap.size := cell_lt c1
      have hl3 : lb < w3.heap.size := cell_lt hc
      have i1 : (0 : Int) ≤ (k : Int) := by omega
      have i2 : (k : Int) < (l.length : Int) := by omega
      have i3 : (k : Int).toNat = k := by omega
      clear hk3 hD3 hb3 hav3 hvs3 HSm HD2 hv hsize
      go_region_held3 (fun w' => w'.cell? ⟨m, 1, none⟩ = some (.slice aa3 all.length ac3) ∧ w'.cell? ⟨lb, lo + k, none⟩ = some (.int .i64 v)) (first | (with_reducible (go_split_ands; exact ⟨‹_›, ‹_›⟩)) | (go_keep; done))
        ((first
          | (go_at_call 13; (with_reducible refine (HRo.out _).mono ?_); rintro e w' ⟨rfl, rfl⟩)
          | (go_at_call 14; (with_reducible refine (HRc.out _ (Kept.drew Nob w3)).mono ?_); rintro e w4 ⟨vb, vc, rfl, ho4, hk4⟩; have q1 := (hk4.cell (p := ⟨m, 1, none⟩) hm3 (fun f => f)).trans c1; have q2 := (hk4.cell (p := ⟨lb, lo + k, none⟩) hl3 (fun f => f)).trans hc; have HO4 := Lib.hid ho4; have HK4 := Lib.hid hk4; clear ho4 hk4)))
      have hRl := recRows_length all.length 1 size
      have hRs := recRows_rec all.length 1 size (by omega)
      have ho4 := HO4.out
      obtain ⟨rs, hrs⟩ : ∃ rs, rs = recRows all.length 1 size := ⟨_, rfl⟩
      rw [← hrs] at hRl hRs ho4
      have HRl := Lib.hid hRl
      have HRs := Lib.hid (fun r hr => by have := (hRs r hr).2; omega : ∀ r ∈ rs, r.length ≤ 400)
      have HRc' := Lib.hid (fun r hr => (hRs r hr).1 : ∀ r ∈ rs, Wal.Rec r)
      have hheft : heft rs ≤ 1332 := by
        have := heft_le rs fun r hr => by have := (hRs r hr).2; omega
        rw [hRl] at this; omega
      obtain ⟨us, hS4⟩ := Side.fresh (HD3.out.nob (Kept.drew Nob w3)) HK4.out ho4
      have HD4 := Lib.hid ((HD3.out.nob (Kept.drew Nob w3)).nob HK4.out)
      have HS4 := Lib.hid hS4
      have HHe := Lib.hid hheft
      clear hRl hRs ho4 hrs hS4 hheft HO4 HK4 HRc HD3 c1 hc q2 i1 i2 i3
      have HRc := HRc'
      clear HRc'
      go_wp2_with fail
      by_cases hroom : Roomy (all.drop first) rs 64
      · have hrm := room_any w4 m first all X HD4.out.x hle (by omega) (fun r hr => by have := HRl0.out r hr; omega) _ us rs _ HS4.out.v HS4.out.rows (by rw [HRl.out]; omega) (fun r hr => by have := HRs.out r hr; omega) 64 (by omega)
        rw [decide_eq_true hroom] at hrm
        have HRm0 := Lib.hid (show Calls Tryd.prog 17 #[.pointer (some ⟨m, 0, none⟩), .slice vb 1 vc, .int .i64 64] w4 (fun e w' => e = .returned (.bool true) ∧ Kept Nob w4 w') from hrm.mono fun e w' ⟨h1, nn, h2⟩ => ⟨h1, h2 ▸ Kept.drewN Nob w4 nn⟩)
        have HMay := Lib.hid (show L.may rs = true from Roomy.may (frm := 0) (til := 64) (by rw [HTl.out.recs]; exact hroom) HH.out (by omega))
        clear hroom hrm
        refine HRm0.out.mono ?_
        rintro e w5 ⟨rfl, hk5⟩
        have HD6 := Lib.hid (HD4.out.nob hk5)
        have HS6 := Lib.hid (HS4.out.nob hk5)
        have c1 := (hk5.cell (cell_lt q1) (fun f => f)).trans q1
        have HT6 := HTl
        have HH6 := HH
        have HF6 := HFr
        have HNl6 := HNl2
        clear hk5 HD4 HS4 q1 HRm0
        have hap := HD6.out.append HS6.out HT6.out HRc.out (by rw [HRl.out]; omega) (by rw [HRl.out]; omega) (by rw [HRl.out]; omega) (by omega) HMay.out
        go_wp2_with fail
        refine hap.mono ?_
        rintro e w7 ⟨rfl, d7, F7, R7, hD7, hS7, hst7⟩
        clear hap
        obtain ⟨av, vs1, Y, hb7, hav7, hvs7, -, -⟩ := hD7.x
        obtain ⟨aa, ac, rfl, -⟩ := hav7.reads.shape
        have hl7 := hvs7.1
        have c17 : w7.cell? ⟨m, 1, none⟩ = some (.slice aa vs1.length ac) := cell_at hb7 1 _ rfl
        have hl7' : (vs1.length : Int) = (all.length : Int) := by rw [hl7]
        have HD7 := Lib.hid hD7
        have HS7 := Lib.hid hS7
        have HB7 := Lib.hid hb7
        have HAv7 := Lib.hid hav7
        have HVs7 := Lib.hid hvs7
        have HL7 := Lib.hid hl7
        have HU := Lib.hid (hS7.rows.1.trans HRl.out)
        have HMl := Lib.hid hD7.x.lt
        have HN7 := Lib.hid (hst7.len.trans HNl6.out)
        clear hD7 hS7 hb7 hav7 hvs7 hl7 hst7 c1
        go_wp2_with (at_builtin; refine wpList_append_pg rfl _ _ 34 rfl tRows (.slice aa vs1.length ac) (.slice vb 1 vc) vs1 us _ _ rfl rfl HAv7.out HS7.out.v HS7.out.rows.one (by have h1 := HL7.out; have h2 := HU.out; omega) ?_; intro b8 c8 w8 ho8 hk8 _; have hb8 := (hk8.block m HMl.out (fun q => (HD7.out.x.notM) (HAv7.out.2 m q).1)).trans HB7.out; have c18 : w8.cell? ⟨m, 1, none⟩ = some (.slice aa vs1.length ac) := cell_at hb8 1 _ rfl; have f18 : w8.frozen? ⟨m, 1, none⟩ = false := frozen_at hb8 1; have HO8 := Lib.hid ho8; have HK8 := Lib.hid hk8; clear ho8 hk8 hb8)
        have hDn := Duo.more HD7.out HB7.out HAv7.out HVs7.out HS7.out HRc.out HO8.out HK8.out
        have hcr := hDn.crash (.slice ka keep.length kc) keep _ (HKp.out.kept hDn.up.kept (fun _ _ f => f)) (by omega) torn
        have HTn := Lib.hid (HT6.out.grow rs)
        have HFn := Lib.hid ((Wal.grow_frm _ rs).trans HF6.out)
        have HHn := Lib.hid ((Wal.grow_half _ rs).trans HH6.out)
        clear hDn
        refine hcr.mono ?_
        rintro e w9 ⟨bd9, rfl, hL9, hk9, hn9⟩
        have hnew : Hid (OpensRel w bd9 m (k + 1) w9) := by
          refine Lib.hid ⟨_, _, _, _, first, all ++ rs, hL9, HTn.out, HFn.out, HHn.out, by rw [List.length_append, HRl.out, HAl.out], fun r hr => ?_, hn9.trans HN7.out⟩
          rcases List.mem_append.1 hr with q | q
          · exact HRl0.out r q
          · exact HRs.out r q
        clear hL9 hk9 hn9 hcr
        go_wp2_with fail
        go_roundw
        case rel => exact ⟨k + 1, bd9, by omega, by go_num, rfl, hnew.out⟩
        case measure => simp [intOf]; omega
      · have hrm := room_any w4 m first all X HD4.out.x hle (by omega) (fun r hr => by have := HRl0.out r hr; omega) _ us rs _ HS4.out.v HS4.out.rows (by rw [HRl.out]; omega) (fun r hr => by have := HRs.out r hr; omega) 64 (by omega)
        rw [decide_eq_false hroom] at hrm
        have HRm0 := Lib.hid (show Calls Tryd.prog 17 #[.pointer (some ⟨m, 0, none⟩), .slice vb 1 vc, .int .i64 64] w4 (fun e w' => e = .returned (.bool false) ∧ Kept Nob w4 w') from hrm.mono fun e w' ⟨h1, nn, h2⟩ => ⟨h1, h2 ▸ Kept.drewN Nob w4 nn⟩)
        clear hroom hrm
        refine HRm0.out.mono ?_
        rintro e w5 ⟨rfl, hk5⟩
        have hD5 := HD4.out.nob hk5
        have hS5 := HS4.out.nob hk5
        have c1 := (hk5.cell (cell_lt q1) (fun f => f)).trans q1
        have HTr := Lib.hid (hD5.trim HTl.out (by omega) all.length hle (Nat.le_refl _))
        have HS5 := Lib.hid hS5
        clear hk5 HD4 HS4 q1 HRm0 hD5 hS5
        go_wp2_with fail
        refine HTr.out.mono ?_
        rintro e w6 ⟨rfl, d6, F6, R6, hD6, hS6, hst6⟩
        have hS6 := hS6 _ _ _ _ HS5.out
        obtain ⟨av4, vs4, hb4, hav4, hvs4, -, -⟩ := hD6.x.plain
        obtain ⟨aa4, ac4, rfl, -⟩ := hav4.reads.shape
        have c04 : w6.cell? ⟨m, 0, none⟩ = some (.int .i64 first) := cell_at hb4 0 _ rfl
        have c1 : w6.cell? ⟨m, 1, none⟩ = some (.slice aa4 all.length ac4) := by rw [← hvs4.1]; exact cell_at hb4 1 _ rfl
        have f04 : w6.frozen? ⟨m, 0, none⟩ = false := frozen_at hb4 0
        have HD6 := Lib.hid (hD6.turn all.length)
        have HS6 := Lib.hid (hS6.turn 0 (.int .i64 all.length))
        have HT6 := Lib.hid (HTl.out.trim hle (Nat.le_refl _))
        have HH6 : Hid ((L.trim all.length).half = 31) := HH
        have HF6 : Hid ((L.trim all.length).frm = 0) := HFr
        have HNl6 := Lib.hid (hst6.len.trans HNl2.out)
        have HMay := Lib.hid (show (L.trim all.length).may rs = true from Roomy.may (frm := 0) (til := 64) (by rw [HT6.out.recs, List.drop_of_length_le (Nat.le_refl _)]; unfold Roomy; have := HHe.out; simp only [heft]; omega) HH6.out (by omega))
        clear hD6 hS6 hb4 hav4 hvs4 HTr HS5 hst6
        have hap := HD6.out.append HS6.out HT6.out HRc.out (by rw [HRl.out]; omega) (by rw [HRl.out]; omega) (by rw [HRl.out]; omega) (by omega) HMay.out
        go_wp2_with fail
        refine hap.mono ?_
        rintro e w7 ⟨rfl, d7, F7, R7, hD7, hS7, hst7⟩
        clear hap
        obtain ⟨av, vs1, Y, hb7, hav7, hvs7, -, -⟩ := hD7.x
        obtain ⟨aa, ac, rfl, -⟩ := hav7.reads.shape
        have hl7 := hvs7.1
        have c17 : w7.cell? ⟨m, 1, none⟩ = some (.slice aa vs1.length ac) := cell_at hb7 1 _ rfl
        have hl7' : (vs1.length : Int) = (all.length : Int) := by rw [hl7]
        have HD7 := Lib.hid hD7
        have HS7 := Lib.hid hS7
        have HB7 := Lib.hid hb7
        have HAv7 := Lib.hid hav7
        have HVs7 := Lib.hid hvs7
        have HL7 := Lib.hid hl7
        have HU := Lib.hid (hS7.rows.1.trans HRl.out)
        have HMl := Lib.hid hD7.x.lt
        have HN7 := Lib.hid (hst7.len.trans HNl6.out)
        clear hD7 hS7 hb7 hav7 hvs7 hl7 hst7 c1
        go_wp2_with (at_builtin; refine wpList_append_pg rfl _ _ 34 rfl tRows (.slice aa vs1.length ac) (.slice vb 1 vc) vs1 us _ _ rfl rfl HAv7.out HS7.out.v HS7.out.rows.one (by have h1 := HL7.out; have h2 := HU.out; omega) ?_; intro b8 c8 w8 ho8 hk8 _; have hb8 := (hk8.block m HMl.out (fun q => (HD7.out.x.notM) (HAv7.out.2 m q).1)).trans HB7.out; have c18 : w8.cell? ⟨m, 1, none⟩ = some (.slice aa vs1.length ac) := cell_at hb8 1 _ rfl; have f18 : w8.frozen? ⟨m, 1, none⟩ = false := frozen_at hb8 1; have HO8 := Lib.hid ho8; have HK8 := Lib.hid hk8; clear ho8 hk8 hb8)
        have hDn := Duo.more HD7.out HB7.out HAv7.out HVs7.out HS7.out HRc.out HO8.out HK8.out
        have hcr := hDn.crash (.slice ka keep.length kc) keep _ (HKp.out.kept hDn.up.kept (fun _ _ f => f)) (by omega) torn
        have HTn := Lib.hid (HT6.out.grow rs)
        have HFn := Lib.hid ((Wal.grow_frm _ rs).trans HF6.out)
        have HHn := Lib.hid ((Wal.grow_half _ rs).trans HH6.out)
        clear hDn
        refine hcr.mono ?_
        rintro e w9 ⟨bd9, rfl, hL9, hk9, hn9⟩
        have hnew : Hid (OpensRel w bd9 m (k + 1) w9) := by
          refine Lib.hid ⟨_, _, _, _, all.length, all ++ rs, hL9, HTn.out, HFn.out, HHn.out, by rw [List.length_append, HRl.out, HAl.out], fun r hr => ?_, hn9.trans HN7.out⟩
          rcases List.mem_append.1 hr with q | q
          · exact HRl0.out r q
          · exact HRs.out r q
        clear hL9 hk9 hn9 hcr
        go_wp2_with fail
        go_roundw
        case rel => exact ⟨k + 1, bd9, by omega, by go_num, rfl, hnew.out⟩
        case measure => simp [intOf]; omega
    · go_wp2_with fail
      refine HOp.out.mono ?_
      rintro e w2 hop
      obtain ⟨b, F2, R2, rfl, hD2, -⟩ := HLi.out.opened hop
      have HSm := Lib.hid (same_log w2 m first all X hD2.x b bd L R2 hD2.up.log HTl.out (by omega) hD2.recs (HT.out.kept hD2.up.kept (fun f => f)))
      have HK2 := Lib.hid hD2.up.kept
      clear hop hD2 HOp
      go_wp2_with (first
        | (go_at_call 19; refine HSm.out.mono ?_; rintro e w3 ⟨rfl, hk3⟩; have HK3 := Lib.hid hk3; clear hk3)
        | (go_at_call 10; refine (awake13 _).mono ?_; rintro e w4 ⟨rfl, hk4⟩))
      go_ret
      exact ⟨rfl, (HK2.out.then HK3.out).then hk4⟩

theorem opens_law (w : World) (lv kv : Value) (l : List Int) (keep : List Bool) (torn : Int) (hl : Reads w lv (l.map (Value.int .i64)) (fun _ => True)) (hkp : Reads w kv (keep.map Value.bool) (fun _ => True)) (hT : Typed w) :
    Calls Tryd.prog 7 #[lv, kv, .int .i64 torn] w (RetTrue w) := by
  obtain ⟨la, lc, rfl, -⟩ := hl.shape
  obtain ⟨ka, kc, rfl, -⟩ := hkp.shape
  simp only [List.length_map] at hl hkp ⊢
  exact opens_any w la lc l ka kc keep torn hl hkp hT
end Go.Proofs.YtcclbaphdblcfaaDoor
