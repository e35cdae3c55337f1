/- Law: WalPlays. -/
import Derived.Test.YtcclbaphdblcfaaDoorPgWal27
import Derived.Test.YtcclbaphdblcfaaDoorPgGrid
namespace Go.Proofs.YtcclbaphdblcfaaDoor
open Go.RowKit

theorem small13 (w : World) (v : Value) (l : List (Nat → Int)) (G : Nat → Prop) (h : GridAt w v 4 l G) :
    Calls Tryd.prog 9 #[v] w fun e w' => e = .returned (.bool (decide (l.length ≤ 60))) ∧ w = w' := by
  obtain ⟨a, cap, rfl, hl, -⟩ := h
  go_enter Tryd.func9, Tryd.ntmps9
  go_wp2
  go_ret
  exact ⟨by simp; omega, rfl⟩
/-- a log is opened anew -/
theorem Duo.lie {w0 w : World} {b bd m : Nat} {d : Dsk} {L : Wal.Lg} {F R X : Nat → Prop} {first : Nat} {all : List (List Value)} {N : Nat} (h : Duo w0 w b bd m d L F R X first all N) : Lie w0 w bd m d L F X first all N :=
  ⟨h.up.disk, h.up.live, h.up.calm, h.up.on, h.up.newF, h.up.kept, h.up.ops, h.x, h.xF, h.mF, h.newX, h.newM, h.recs⟩

/-- inside WalPlays: k steps are done -/
def PlaysRel (w : World) (frm sec b bd m k : Nat) (wr : World) : Prop :=
  ∃ (d : Dsk) (L : Wal.Lg) (F R X : Nat → Prop) (first : Nat) (all : List (List Value)) (N : Nat), Duo w wr b bd m d L F R X first all N ∧ Tells L first all ∧ L.frm = frm ∧ L.half = (sec - 1) / 2 ∧ all.length ≤ 40 * k ∧ N ≤ 1 + 20000 * k ∧ d.now.length = 300 ∧
    (∀ i, i < 300 → (i < frm ∨ frm + sec ≤ i) → d.now.getD i [] = Dsk.zeroSector)

set_option maxRecDepth 100000 in
set_option maxHeartbeats 4000000 in
theorem plays13 (w : World) (from_ sectors : Int) (lv : Value) (l : List (Nat → Int)) (hl : GridAt w lv 4 l (fun j => j < w.heap.size)) (hT : Typed w) :
    Calls Tryd.prog 3 #[.int .i64 from_, .int .i64 sectors, lv] w (RetTrue w) := by
  have HSma := Lib.hid (small13 w lv l _ hl)
  by_cases gs : l.length ≤ 60
  · rw [decide_eq_true gs] at HSma
    by_cases g0 : from_ < 0
    · go_enter Tryd.func3, Tryd.ntmps3
      go_wp2_with (first | (go_at_call 9; refine HSma.out.mono ?_; rintro e w' ⟨rfl, rfl⟩) | (go_at_call 10; refine (awake13 _).mono ?_; rintro e w' ⟨rfl, hk⟩))
      go_ret
      exact ⟨rfl, hk⟩
    by_cases g1 : 50 < from_
    · go_enter Tryd.func3, Tryd.ntmps3
      go_wp2_with (first | (go_at_call 9; refine HSma.out.mono ?_; rintro e w' ⟨rfl, rfl⟩) | (go_at_call 10; refine (awake13 _).mono ?_; rintro e w' ⟨rfl, hk⟩))
      go_ret
      exact ⟨rfl, hk⟩
    by_cases g2 : sectors < 16
    · go_enter Tryd.func3, Tryd.ntmps3
      go_wp2_with (first | (go_at_call 9; refine HSma.out.mono ?_; rintro e w' ⟨rfl, rfl⟩) | (go_at_call 10; refine (awake13 _).mono ?_; rintro e w' ⟨rfl, hk⟩))
      go_ret
      exact ⟨rfl, hk⟩
    by_cases g3 : 200 < sectors
    · go_enter Tryd.func3, Tryd.ntmps3
      go_wp2_with (first | (go_at_call 9; refine HSma.out.mono ?_; rintro e w' ⟨rfl, rfl⟩) | (go_at_call 10; refine (awake13 _).mono ?_; rintro e w' ⟨rfl, hk⟩))
      go_ret
      exact ⟨rfl, hk⟩
    obtain ⟨frm, rfl⟩ : ∃ a : Nat, from_ = a := ⟨from_.toNat, by omega⟩
    obtain ⟨sec, rfl⟩ : ∃ a : Nat, sectors = a := ⟨sectors.toNat, by omega⟩
    have hfm : frm ≤ 50 := by omega
    have hs1 : 16 ≤ sec := by omega
    have hs2 : sec ≤ 200 := by omega
    have HT := Lib.hid hT
    have HL0 := Lib.hid hl
    obtain ⟨la, lc, hlv⟩ := hl.shape
    subst hlv
    clear hT hl
    go_enter Tryd.func3, Tryd.ntmps3
    go_wp2_with (go_at_call 9; refine HSma.out.mono ?_; rintro e w' ⟨rfl, rfl⟩)
    refine (disk_new w 300 (by omega) (by omega)).mono ?_
    rintro e w1 ⟨bd, rfl, hD1, hk1⟩
    have hon1 := fresh_on 300 frm (frm + sec) (by omega) (by omega)
    have hop := log_open w1 bd (Dsk.fresh 300) _ hD1 (Wal.Live.fresh 300) (by decide) frm (frm + sec) (by omega) (by show frm + sec ≤ 300; omega) _ hon1 rfl rfl
    have HOp := Lib.hid (show Calls Tryd.prog 12 #[.pointer (some ⟨bd, 0, none⟩), .int .i64 frm, .int .i64 ((frm : Int) + (sec : Int))] w1 _ from by have h := hop; rw [Int.natCast_add] at h; exact h)
    have HK1 := Lib.hid hk1
    have HOn1 := Lib.hid hon1
    clear hD1 hk1 hop hon1
    go_wp2_with fail
    refine HOp.out.mono ?_
    rintro e w2 hop
    obtain ⟨b0, F2, R2, rfl, hU2, -, -, -⟩ := Up.opened (w0 := w) (N := 0) (Wal.Live.fresh 300) HOn1.out (by decide) HK1.out (fun x hx => hx.1) hop
    rw [show (frm + sec - frm - 1) / 2 = (sec - 1) / 2 from by congr 2; omega] at hU2
    have hn2 : (Dsk.fresh 300).sync.1.now = (Dsk.fresh 300).now := (Wal.sync_now (Wal.Live.fresh 300)).1
    have HR0 : Hid (PlaysRel w frm sec b0 bd w2.heap.size 0 (w2.alloc (.cells #[.int .i64 0, .slice none 0 0] 36))) :=
      Lib.hid ⟨_, _, F2, R2, _, 0, [], 1, Duo.start hU2, Tells.none _ _, rfl, rfl, by simp, by omega, by rw [hn2]; simp [Dsk.fresh], fun i hi _ => by rw [hn2]; exact fresh_zero 300 i hi⟩
    clear hop hU2 hn2 HOp
    go_wp2_with fail
    go_loopw [9, 12] (fun sv i wr => ∃ (k b : Nat), k ≤ l.length ∧ i = .int .i64 k ∧ sv = .pointer (some ⟨b, 0, none⟩) ∧ PlaysRel w frm sec b bd w2.heap.size k wr) (fun _ i _ => l.length - (intOf i).toNat)
    case atStart => exact ⟨0, b0, Nat.zero_le _, rfl, rfl, HR0.out⟩
    case round =>
      clear HR0
      obtain ⟨k, b, hk, rfl, rfl, d, L, F, R, X, first, all, N, hdu, htl, hfr, hha, hal, hN, hnl, hot⟩ := hrel
      generalize w2.heap.size = m at *
      have hle := htl.le
      have HDU := Lib.hid hdu
      have HTl := Lib.hid htl
      have HH := Lib.hid hha
      have HFr := Lib.hid hfr
      have HAl := Lib.hid hal
      have HN := Lib.hid hN
      have HNl := Lib.hid hnl
      have HOt := Lib.hid hot
      have hall : all.length ≤ 2400 := by omega
      clear hdu htl hfr hha hal hN hnl hot
      by_cases hlt : k < l.length
      · obtain ⟨x, hx⟩ : ∃ x, l[k]? = some x := ⟨l[k], List.getElem?_eq_getElem hlt⟩
        obtain ⟨gb, go, hla, -, hlc, hgb, -, hcs⟩ := (HL0.out.kept HDU.out.up.kept (fun j hj f => f)).row hx
        subst hla
        have g0 := (hcs 0 (by omega)).1
        have g1 := (hcs 1 (by omega)).1
        have g2 := (hcs 2 (by omega)).1
        have g3 := (hcs 3 (by omega)).1
        simp only [Nat.add_zero] at g0
        generalize x 0 = kind at *
        generalize x 1 = nn at *
        generalize x 2 = ss at *
        generalize x 3 = kk at *
        clear hcs hx
        obtain ⟨n, hn⟩ : ∃ s : Nat, nn % 43 = (s : Int) := ⟨(nn % 43).toNat, by omega⟩
        obtain ⟨size, hsize⟩ : ∃ s : Nat, ss % 1250 = (s : Int) := ⟨(ss % 1250).toNat, by omega⟩
        have hn43 : n < 43 := by omega
        have hsz : size < 1250 := by omega
        have HRo1 := Lib.hid (fun W => round_any W nn 43 (by omega) (by omega))
        have HRo2 := Lib.hid (fun W => round_any W ss 1250 (by omega) (by omega))
        rw [hn] at HRo1
        rw [hsize] at HRo2
        obtain ⟨av, vs0, hb, hav, hvs, -, -⟩ := HDU.out.x.plain
        obtain ⟨aa0, ac0, rfl, -⟩ := hav.reads.shape
        have c0 : wr.cell? ⟨m, 0, none⟩ = some (.int .i64 first) := cell_at hb 0 _ rfl
        have c1 : wr.cell? ⟨m, 1, none⟩ = some (.slice aa0 all.length ac0) := by rw [← hvs.1]; exact cell_at hb 1 _ rfl
        have f0 : wr.frozen? ⟨m, 0, none⟩ = false := frozen_at hb 0
        clear hb hav hvs hn hsize
        by_cases k1 : kind = 1
        · subst k1
          have HRc0 := Lib.hid (recs_any wr all.length n size (by omega) (by omega) (by omega))
          go_wp2_with (first
            | (go_at_call 13; (with_reducible refine (HRo1.out _).mono ?_); rintro e w' ⟨rfl, rfl⟩)
            | (go_at_call 13; (with_reducible refine (HRo2.out _).mono ?_); rintro e w' ⟨rfl, rfl⟩))
          refine HRc0.out.mono ?_
          rintro e w4 ⟨vb, vc, rfl, ho4, hk4⟩
          have hRl := recRows_length all.length n size
          have hRs : ∀ r ∈ recRows all.length n size, r.length = size ∧ ∀ u ∈ r, IsByte u := fun r hr => by
            simp only [recRows, List.mem_map] at hr
            obtain ⟨i, -, rfl⟩ := hr
            exact ⟨blockRow_length _ _, blockRow_bytes _ _⟩
          generalize recRows all.length n size = rs at ho4 hRl hRs
          obtain ⟨us, hS4⟩ := Side.fresh HDU.out hk4 ho4
          have HRl := Lib.hid hRl
          have HRs := Lib.hid hRs
          have HD4 := Lib.hid (HDU.out.nob hk4)
          have HS4 := Lib.hid hS4
          have d1 := (hk4.cell (cell_lt c1) (fun f => f)).trans c1
          clear hRl hRs ho4 hk4 hS4 HDU c0 c1 f0 g0 g1 g2 g3 HRc0 HRo1 HRo2
          by_cases n0 : n = 0
          · have t0 : (n : Int) = 0 := by omega
            have HAp := Lib.hid (show Calls Tryd.prog 15 #[.pointer (some ⟨b, 0, none⟩), .slice vb n vc] w4 (RetNoApp w4 opWal 0 1) from by rw [n0]; exact log_append_none w4 _ vb vc)
            clear n0
            go_wp2_with fail
            refine HAp.out.mono ?_
            rintro e w5 ⟨g5, rfl, hf5, hk5⟩
            have hD5 := HD4.out.nob hk5
            have hI := is_this w5 _ opWal 0 1 _ hf5 (by omega) (by omega) (HT.out.kept hD5.up.kept (fun f => f))
            unfold opWal at hI
            have HI := Lib.hid hI
            have HD5 := Lib.hid hD5
            clear hf5 hk5 hD5 hI d1
            go_upto_region 41 with (go_at_call 16; (with_reducible refine HI.out.mono ?_); rintro e w6 ⟨rfl, hk6⟩)
            have HD9 := Lib.hid (HD5.out.nob hk6)
            clear hk6
            have HT9 := HTl
            have HF9 := HFr
            have HH9 := HH
            have HA9 := HAl
            have HN9 := HN
            have HNl9 := HNl
            have HO9 := HOt
            have HSm := Lib.hid (same_log w6 m _ _ _ HD9.out.x b bd _ _ HD9.out.up.log HT9.out (by have := HA9.out; omega) HD9.out.recs (HT.out.kept HD9.out.up.kept (fun f => f)))
            have HDe := Lib.hid (fun W (q : Kept Nob w6 W) => log_dead W b bd _ _ (HD9.out.up.log.kept q (fun f => f) (fun _ _ f => f)))
            go_wp2_with (first
              | (go_at_call 19; (with_reducible refine HSm.out.mono ?_); rintro e w9 ⟨rfl, hk9⟩; have HK9 := Lib.hid hk9; clear hk9)
              | (go_at_call 20; (with_reducible refine (HDe.out _ HK9.out).mono ?_); rintro e w' ⟨rfl, rfl⟩))
            have hnew : Hid (PlaysRel w frm sec b bd m (k + 1) w9) := Lib.hid ⟨_, _, _, _, _, _, _, _, HD9.out.nob HK9.out, HT9.out, HF9.out, HH9.out, by have := HA9.out; omega, by have := HN9.out; omega, HNl9.out, HO9.out⟩
            go_roundw
            case rel => exact ⟨k + 1, b, by omega, by go_num, rfl, hnew.out⟩
            case measure => simp [intOf]; omega
          by_cases n40 : 40 < n
          · have t0 : ¬ (n : Int) = 0 := by omega
            have HAp := Lib.hid (log_append_many w4 (some ⟨b, 0, none⟩) _ us rs _ HS4.out.v HS4.out.rows (by rw [HRl.out]; omega) (fun r hr => by have := (HRs.out r hr).1; omega) (by rw [HRl.out]; omega) (.inl (by rw [HRl.out]; omega)))
            go_wp2_with fail
            refine HAp.out.mono ?_
            rintro e w5 ⟨g5, rfl, hf5, hk5⟩
            have hD5 := HD4.out.nob hk5
            have hI := is_this w5 _ opWal 0 13 _ hf5 (by omega) (by omega) (HT.out.kept hD5.up.kept (fun f => f))
            unfold opWal at hI
            have HI := Lib.hid hI
            have HD5 := Lib.hid hD5
            clear hf5 hk5 hD5 hI d1
            go_upto_region 41 with (go_at_call 16; (with_reducible refine HI.out.mono ?_); rintro e w6 ⟨rfl, hk6⟩)
            have HD9 := Lib.hid (HD5.out.nob hk6)
            clear hk6
            have HT9 := HTl
            have HF9 := HFr
            have HH9 := HH
            have HA9 := HAl
            have HN9 := HN
            have HNl9 := HNl
            have HO9 := HOt
            have HSm := Lib.hid (same_log w6 m _ _ _ HD9.out.x b bd _ _ HD9.out.up.log HT9.out (by have := HA9.out; omega) HD9.out.recs (HT.out.kept HD9.out.up.kept (fun f => f)))
            have HDe := Lib.hid (fun W (q : Kept Nob w6 W) => log_dead W b bd _ _ (HD9.out.up.log.kept q (fun f => f) (fun _ _ f => f)))
            go_wp2_with (first
              | (go_at_call 19; (with_reducible refine HSm.out.mono ?_); rintro e w9 ⟨rfl, hk9⟩; have HK9 := Lib.hid hk9; clear hk9)
              | (go_at_call 20; (with_reducible refine (HDe.out _ HK9.out).mono ?_); rintro e w' ⟨rfl, rfl⟩))
            have hnew : Hid (PlaysRel w frm sec b bd m (k + 1) w9) := Lib.hid ⟨_, _, _, _, _, _, _, _, HD9.out.nob HK9.out, HT9.out, HF9.out, HH9.out, by have := HA9.out; omega, by have := HN9.out; omega, HNl9.out, HO9.out⟩
            go_roundw
            case rel => exact ⟨k + 1, b, by omega, by go_num, rfl, hnew.out⟩
            case measure => simp [intOf]; omega
          by_cases s12 : 1200 < size
          · have t0 : ¬ (n : Int) = 0 := by omega
            have HAp := Lib.hid (log_append_many w4 (some ⟨b, 0, none⟩) _ us rs _ HS4.out.v HS4.out.rows (by rw [HRl.out]; omega) (fun r hr => by have := (HRs.out r hr).1; omega) (by rw [HRl.out]; omega) (.inr ⟨rs[0]'(by rw [HRl.out]; omega), List.getElem_mem _, by rw [(HRs.out _ (List.getElem_mem _)).1]; exact s12⟩))
            go_wp2_with fail
            refine HAp.out.mono ?_
            rintro e w5 ⟨g5, rfl, hf5, hk5⟩
            have hD5 := HD4.out.nob hk5
            have hI := is_this w5 _ opWal 0 13 _ hf5 (by omega) (by omega) (HT.out.kept hD5.up.kept (fun f => f))
            unfold opWal at hI
            have HI := Lib.hid hI
            have HD5 := Lib.hid hD5
            clear hf5 hk5 hD5 hI d1
            go_upto_region 41 with (go_at_call 16; (with_reducible refine HI.out.mono ?_); rintro e w6 ⟨rfl, hk6⟩)
            have HD9 := Lib.hid (HD5.out.nob hk6)
            clear hk6
            have HT9 := HTl
            have HF9 := HFr
            have HH9 := HH
            have HA9 := HAl
            have HN9 := HN
            have HNl9 := HNl
            have HO9 := HOt
            have HSm := Lib.hid (same_log w6 m _ _ _ HD9.out.x b bd _ _ HD9.out.up.log HT9.out (by have := HA9.out; omega) HD9.out.recs (HT.out.kept HD9.out.up.kept (fun f => f)))
            have HDe := Lib.hid (fun W (q : Kept Nob w6 W) => log_dead W b bd _ _ (HD9.out.up.log.kept q (fun f => f) (fun _ _ f => f)))
            go_wp2_with (first
              | (go_at_call 19; (with_reducible refine HSm.out.mono ?_); rintro e w9 ⟨rfl, hk9⟩; have HK9 := Lib.hid hk9; clear hk9)
              | (go_at_call 20; (with_reducible refine (HDe.out _ HK9.out).mono ?_); rintro e w' ⟨rfl, rfl⟩))
            have hnew : Hid (PlaysRel w frm sec b bd m (k + 1) w9) := Lib.hid ⟨_, _, _, _, _, _, _, _, HD9.out.nob HK9.out, HT9.out, HF9.out, HH9.out, by have := HA9.out; omega, by have := HN9.out; omega, HNl9.out, HO9.out⟩
            go_roundw
            case rel => exact ⟨k + 1, b, by omega, by go_num, rfl, hnew.out⟩
            case measure => simp [intOf]; omega
          have t0 : ¬ (n : Int) = 0 := by omega
          have HRc := Lib.hid (fun r hr => ⟨by have := (HRs.out r hr).1; omega, (HRs.out r hr).2⟩ : ∀ r ∈ rs, Wal.Rec r)
          by_cases hmay : L.may rs = true
          · have HAp := Lib.hid (HD4.out.append HS4.out HTl.out HRc.out (by rw [HRl.out]; omega) (by rw [HRl.out]; omega) (by rw [HRl.out]; omega) (by have := HN.out; omega) hmay)
            clear hmay
            go_wp2_with fail
            refine HAp.out.mono ?_
            rintro e w7 ⟨rfl, d7, F7, R7, hD7, hS7, hst7⟩
            obtain ⟨av, vs1, Y, hb7, hav7, hvs7, -, -⟩ := hD7.x
            obtain ⟨aa, ac, rfl, -⟩ := hav7.reads.shape
            have hl7 := hvs7.1
            have c17 : w7.cell? ⟨m, 1, none⟩ = some (.slice aa vs1.length ac) := cell_at hb7 1 _ rfl
            have hl7' : (vs1.length : Int) = (all.length : Int) := by rw [hl7]
            have HD7 := Lib.hid hD7
            have HS7 := Lib.hid hS7
            have HB7 := Lib.hid hb7
            have HAv7 := Lib.hid hav7
            have HVs7 := Lib.hid hvs7
            have HL7 := Lib.hid hl7
            have HU := Lib.hid (hS7.rows.1.trans HRl.out)
            have HMl := Lib.hid hD7.x.lt
            have HSt7 := Lib.hid hst7
            clear hD7 hS7 hb7 hav7 hvs7 hl7 hst7 d1
            go_upto_region 41 with (at_builtin; refine wpList_append_pg rfl _ _ 34 rfl tRows (.slice aa vs1.length ac) (.slice vb n vc) vs1 us _ _ rfl rfl HAv7.out HS7.out.v HS7.out.rows.one (by have h1 := HL7.out; have h2 := HU.out; omega) ?_; intro b8 c8 w8 ho8 hk8 _; have hb8 := (hk8.block m HMl.out (fun q => (HD7.out.x.notM) (HAv7.out.2 m q).1)).trans HB7.out; have c18 : w8.cell? ⟨m, 1, none⟩ = some (.slice aa vs1.length ac) := cell_at hb8 1 _ rfl; have f18 : w8.frozen? ⟨m, 1, none⟩ = false := frozen_at hb8 1; have HO8 := Lib.hid ho8; have HK8 := Lib.hid hk8; clear ho8 hk8 hb8)
            have HD9 := Lib.hid (Duo.more HD7.out HB7.out HAv7.out HVs7.out HS7.out HRc.out HO8.out HK8.out)
            have HT9 := Lib.hid (HTl.out.grow rs)
            have HF9 := Lib.hid ((Wal.grow_frm L rs).trans HFr.out)
            have HH9 := Lib.hid ((Wal.grow_half L rs).trans HH.out)
            have HA9 : Hid ((all ++ rs).length ≤ 40 * k + 40) := Lib.hid (by rw [List.length_append, HRl.out]; have := HAl.out; omega)
            have HN9 : Hid (N + 20000 ≤ 1 + 20000 * (k + 1)) := Lib.hid (by have := HN.out; omega)
            have HNl9 := Lib.hid (HSt7.out.len.trans HNl.out)
            have HO9 : Hid (∀ i, i < 300 → (i < frm ∨ frm + sec ≤ i) → d7.now.getD i [] = Dsk.zeroSector) := Lib.hid fun i hi hi2 => (HSt7.out.other i (by rw [HFr.out, HH.out]; omega)).trans (HOt.out i hi hi2)
            clear c17 c18 f18
            have HSm := Lib.hid (same_log (w8.setCell ⟨m, 1, none⟩ (.slice b8 (vs1.length + us.length) c8)) m _ _ _ HD9.out.x b bd _ _ HD9.out.up.log HT9.out (by have := HA9.out; omega) HD9.out.recs (HT.out.kept HD9.out.up.kept (fun f => f)))
            have HDe := Lib.hid (fun W (q : Kept Nob (w8.setCell ⟨m, 1, none⟩ (.slice b8 (vs1.length + us.length) c8)) W) => log_dead W b bd _ _ (HD9.out.up.log.kept q (fun f => f) (fun _ _ f => f)))
            go_wp2_with (first
              | (go_at_call 19; (with_reducible refine HSm.out.mono ?_); rintro e w9 ⟨rfl, hk9⟩; have HK9 := Lib.hid hk9; clear hk9)
              | (go_at_call 20; (with_reducible refine (HDe.out _ HK9.out).mono ?_); rintro e w' ⟨rfl, rfl⟩))
            have hnew : Hid (PlaysRel w frm sec b bd m (k + 1) w9) := Lib.hid ⟨_, _, _, _, _, _, _, _, HD9.out.nob HK9.out, HT9.out, HF9.out, HH9.out, by have := HA9.out; omega, by have := HN9.out; omega, HNl9.out, HO9.out⟩
            go_roundw
            case rel => exact ⟨k + 1, b, by omega, by go_num, rfl, hnew.out⟩
            case measure => simp [intOf]; omega
          · have hmf : L.may rs = false := by simpa using hmay
            have HAp := Lib.hid (HD4.out.append_full HS4.out HTl.out HRc.out (by rw [HRl.out]; omega) (by rw [HRl.out]; omega) (by rw [HRl.out]; omega) (by have := HN.out; omega) hmf)
            have hnr : ¬ Roomy (all.drop first) rs sec := fun hR => by
              have := Roomy.may (L := L) (rs := rs) (frm := frm) (til := frm + sec) (by rw [HTl.out.recs, Nat.add_sub_cancel_left]; exact hR) (by rw [HH.out, Nat.add_sub_cancel_left]) (by omega)
              rw [hmf] at this; cases this
            have HNr := Lib.hid hnr
            clear hmay hmf hnr
            go_wp2_with fail
            refine HAp.out.mono ?_
            rintro e w5 ⟨g5, rfl, hf5, hk5⟩
            have hD5 := HD4.out.nob hk5
            have hI := is_this w5 _ opWal 0 8 _ hf5 (by omega) (by omega) (HT.out.kept hD5.up.kept (fun f => f))
            unfold opWal at hI
            have HI := Lib.hid hI
            have HD5 := Lib.hid hD5
            have HS5 := Lib.hid (HS4.out.nob hk5)
            have HRm := Lib.hid (fun W (q : Kept Nob w5 W) => room_any W m first all X (HD5.out.nob q).x hle (by omega) (fun r hr => by have := ((HD5.out.recs) r hr).1; omega) _ us rs _ (HS5.out.nob q).v (HS5.out.nob q).rows (by rw [HRl.out]; omega) (fun r hr => by have := (HRs.out r hr).1; omega) sec (by omega))
            rw [decide_eq_false HNr.out] at HRm
            clear hf5 hk5 hD5 hI d1
            go_upto_region 41 with (first
              | (go_at_call 16; (with_reducible refine HI.out.mono ?_); rintro e w6 ⟨rfl, hk6⟩; have HK6 := Lib.hid hk6; clear hk6)
              | (go_at_call 17; (with_reducible refine (HRm.out _ HK6.out).mono ?_); rintro e w7 ⟨rfl, n7, rfl⟩))
            have HD9 := Lib.hid (HD5.out.nob (HK6.out.then (Kept.drewN Nob w6 n7)))
            have HT9 := HTl
            have HF9 := HFr
            have HH9 := HH
            have HA9 := HAl
            have HN9 := HN
            have HNl9 := HNl
            have HO9 := HOt
            have HSm := Lib.hid (same_log (w6.drewN n7) m _ _ _ HD9.out.x b bd _ _ HD9.out.up.log HT9.out (by have := HA9.out; omega) HD9.out.recs (HT.out.kept HD9.out.up.kept (fun f => f)))
            have HDe := Lib.hid (fun W (q : Kept Nob (w6.drewN n7) W) => log_dead W b bd _ _ (HD9.out.up.log.kept q (fun f => f) (fun _ _ f => f)))
            go_wp2_with (first
              | (go_at_call 19; (with_reducible refine HSm.out.mono ?_); rintro e w9 ⟨rfl, hk9⟩; have HK9 := Lib.hid hk9; clear hk9)
              | (go_at_call 20; (with_reducible refine (HDe.out _ HK9.out).mono ?_); rintro e w' ⟨rfl, rfl⟩))
            have hnew : Hid (PlaysRel w frm sec b bd m (k + 1) w9) := Lib.hid ⟨_, _, _, _, _, _, _, _, HD9.out.nob HK9.out, HT9.out, HF9.out, HH9.out, by have := HA9.out; omega, by have := HN9.out; omega, HNl9.out, HO9.out⟩
            go_roundw
            case rel => exact ⟨k + 1, b, by omega, by go_num, rfl, hnew.out⟩
            case measure => simp [intOf]; omega
        by_cases k2 : kind = 2
        · subst k2
          obtain ⟨r, hr⟩ : ∃ r : Nat, kk % ((all.length : Int) - (first : Int) + 1) = (r : Int) := ⟨(kk % ((all.length : Int) - (first : Int) + 1)).toNat, by have := Int.emod_nonneg kk (b := (all.length : Int) - (first : Int) + 1) (by omega); omega⟩
          have hrl : r ≤ all.length - first := by have := Int.emod_lt_of_pos kk (b := (all.length : Int) - (first : Int) + 1) (by omega); omega
          have HRo3 := Lib.hid (fun W => round_any W kk ((all.length : Int) - (first : Int) + 1) (by omega) (by omega))
          rw [hr] at HRo3
          obtain ⟨t, ht⟩ : ∃ t, t = first + r := ⟨_, rfl⟩
          have ht1 : first ≤ t := by omega
          have ht2 : t ≤ all.length := by omega
          have HTt := Lib.hid ht
          have HTr := Lib.hid (fun n => (HDU.out.nob (Kept.drewN Nob wr n)).trim HTl.out (by have := HN.out; omega) t ht1 ht2)
          have j1 : IntKind.i64.wrap ((all.length : Int) - (first : Int)) = (all.length : Int) - (first : Int) := IntWalk.i64_in _ (by omega)
          have j2 : IntKind.i64.wrap ((all.length : Int) - (first : Int) + 1) = (all.length : Int) - (first : Int) + 1 := IntWalk.i64_in _ (by omega)
          have j3 : IntKind.i64.wrap ((first : Int) + (r : Int)) = (first : Int) + (r : Int) := IntWalk.i64_in _ (by omega)
          have j4 : (0 : Int) ≤ (k : Int) := by omega
          have j5 : (k : Int) < (l.length : Int) := by omega
          have j6 : (k : Int).toNat = k := by omega
          clear hr ht
          go_upto_region 32 with (first
            | (go_at_call 13; (with_reducible refine (HRo1.out _).mono ?_); rintro e w' ⟨rfl, rfl⟩)
            | (go_at_call 13; (with_reducible refine (HRo2.out _).mono ?_); rintro e w' ⟨rfl, rfl⟩))
          go_quiet ((go_at_call 13; exact Calls.quiet_of_same ((HRo3.out _).mono fun e w' h => ⟨h.1, h.2.symm⟩)))
          clear j1 j2 j3 j4 j5 j6
          go_wp2_with fail
          rw [show (first : Int) + (r : Int) = (t : Int) from by have := HTt.out; omega]
          refine (HTr.out nq).mono ?_
          rintro e w6 ⟨rfl, d6, F6, R6, hD6, -, hst6⟩
          obtain ⟨av4, vs4, hb4, hav4, hvs4, -, -⟩ := hD6.x.plain
          have c04 : w6.cell? ⟨m, 0, none⟩ = some (.int .i64 first) := cell_at hb4 0 _ rfl
          have f04 : w6.frozen? ⟨m, 0, none⟩ = false := frozen_at hb4 0
          have HD9 := Lib.hid (hD6.turn t)
          have HT9 := Lib.hid (HTl.out.trim ht1 ht2)
          have HF9 : Hid ((L.trim t).frm = frm) := HFr
          have HH9 : Hid ((L.trim t).half = (sec - 1) / 2) := HH
          have HA9 := HAl
          have HN9 : Hid (N + 20000 ≤ 1 + 20000 * (k + 1)) := Lib.hid (by have := HN.out; omega)
          have HNl9 := Lib.hid (hst6.len.trans HNl.out)
          have HO9 : Hid (∀ i, i < 300 → (i < frm ∨ frm + sec ≤ i) → d6.now.getD i [] = Dsk.zeroSector) := Lib.hid fun i hi hi2 => (hst6.other i (by rw [HFr.out, HH.out]; omega)).trans (HOt.out i hi hi2)
          clear hD6 hst6 hb4 hav4 hvs4 HTr c0 c1 f0 g0 g1 g2 g3
          have HSm := Lib.hid (same_log (w6.setCell ⟨m, 0, none⟩ (.int .i64 t)) m _ _ _ HD9.out.x b bd _ _ HD9.out.up.log HT9.out (by have := HA9.out; omega) HD9.out.recs (HT.out.kept HD9.out.up.kept (fun f => f)))
          have HDe := Lib.hid (fun W (q : Kept Nob (w6.setCell ⟨m, 0, none⟩ (.int .i64 t)) W) => log_dead W b bd _ _ (HD9.out.up.log.kept q (fun f => f) (fun _ _ f => f)))
          go_wp2_with (first
            | (go_at_call 19; (with_reducible refine HSm.out.mono ?_); rintro e w9 ⟨rfl, hk9⟩; have HK9 := Lib.hid hk9; clear hk9)
            | (go_at_call 20; (with_reducible refine (HDe.out _ HK9.out).mono ?_); rintro e w' ⟨rfl, rfl⟩))
          have hnew : Hid (PlaysRel w frm sec b bd m (k + 1) w9) := Lib.hid ⟨_, _, _, _, _, _, _, _, HD9.out.nob HK9.out, HT9.out, HF9.out, HH9.out, by have := HA9.out; omega, by have := HN9.out; omega, HNl9.out, HO9.out⟩
          go_roundw
          case rel => exact ⟨k + 1, b, by omega, by go_num, rfl, hnew.out⟩
          case measure => simp [intOf]; omega
        by_cases k3 : kind = 3
        · subst k3
          have hop := log_open wr bd d F HDU.out.up.disk HDU.out.up.live (by have := HDU.out.up.ops; have := HN.out; omega) frm (frm + sec) (by omega) (by have h1 := HDU.out.up.disk.wf.len; have h2 := HNl.out; omega) L HDU.out.up.on HFr.out (by rw [HH.out]; congr 1; omega)
          rw [Int.natCast_add] at hop
          have HOp := Lib.hid hop
          clear hop
          go_wp2_with (first
            | (go_at_call 13; (with_reducible refine (HRo1.out _).mono ?_); rintro e w' ⟨rfl, rfl⟩)
            | (go_at_call 13; (with_reducible refine (HRo2.out _).mono ?_); rintro e w' ⟨rfl, rfl⟩))
          refine HOp.out.mono ?_
          rintro e w4 hop
          obtain ⟨b9, F9, R9, rfl, hD9, hnow⟩ := HDU.out.lie.opened hop
          have HD9 := Lib.hid hD9
          have HT9 := HTl
          have HF9 := HFr
          have HH9 := HH
          have HA9 := HAl
          have HN9 : Hid (N + 1 ≤ 1 + 20000 * (k + 1)) := Lib.hid (by have := HN.out; omega)
          have HNl9 := Lib.hid (show d.sync.1.now.length = 300 from by rw [hnow]; exact HNl.out)
          have HO9 : Hid (∀ i, i < 300 → (i < frm ∨ frm + sec ≤ i) → d.sync.1.now.getD i [] = Dsk.zeroSector) := Lib.hid fun i hi hi2 => by rw [hnow]; exact HOt.out i hi hi2
          clear hop hD9 hnow c0 c1 f0 g0 g1 g2 g3
          have HSm := Lib.hid (same_log w4 m _ _ _ HD9.out.x b9 bd _ _ HD9.out.up.log HT9.out (by have := HA9.out; omega) HD9.out.recs (HT.out.kept HD9.out.up.kept (fun f => f)))
          have HDe := Lib.hid (fun W (q : Kept Nob w4 W) => log_dead W b9 bd _ _ (HD9.out.up.log.kept q (fun f => f) (fun _ _ f => f)))
          go_wp2_with (first
            | (go_at_call 19; (with_reducible refine HSm.out.mono ?_); rintro e w9 ⟨rfl, hk9⟩; have HK9 := Lib.hid hk9; clear hk9)
            | (go_at_call 20; (with_reducible refine (HDe.out _ HK9.out).mono ?_); rintro e w' ⟨rfl, rfl⟩))
          have hnew : Hid (PlaysRel w frm sec b9 bd m (k + 1) w9) := Lib.hid ⟨_, _, _, _, _, _, _, _, HD9.out.nob HK9.out, HT9.out, HF9.out, HH9.out, by have := HA9.out; omega, by have := HN9.out; omega, HNl9.out, HO9.out⟩
          go_roundw
          case rel => exact ⟨k + 1, b9, by omega, by go_num, rfl, hnew.out⟩
          case measure => simp [intOf]; omega
        · have HD9 := HDU
          have HT9 := HTl
          have HF9 := HFr
          have HH9 := HH
          have HA9 := HAl
          have HN9 := HN
          have HNl9 := HNl
          have HO9 := HOt
          clear HDU
          have HSm := Lib.hid (same_log wr m _ _ _ HD9.out.x b bd _ _ HD9.out.up.log HT9.out (by have := HA9.out; omega) HD9.out.recs (HT.out.kept HD9.out.up.kept (fun f => f)))
          have HDe := Lib.hid (fun W (q : Kept Nob wr W) => log_dead W b bd _ _ (HD9.out.up.log.kept q (fun f => f) (fun _ _ f => f)))
          go_wp2_with (first
            | (go_at_call 13; (with_reducible refine (HRo1.out _).mono ?_); rintro e w' ⟨rfl, rfl⟩)
            | (go_at_call 13; (with_reducible refine (HRo2.out _).mono ?_); rintro e w' ⟨rfl, rfl⟩)
            | (go_at_call 19; (with_reducible refine HSm.out.mono ?_); rintro e w9 ⟨rfl, hk9⟩; have HK9 := Lib.hid hk9; clear hk9)
            | (go_at_call 20; (with_reducible refine (HDe.out _ HK9.out).mono ?_); rintro e w' ⟨rfl, rfl⟩))
          have hnew : Hid (PlaysRel w frm sec b bd m (k + 1) w9) := Lib.hid ⟨_, _, _, _, _, _, _, _, HD9.out.nob HK9.out, HT9.out, HF9.out, HH9.out, by have := HA9.out; omega, by have := HN9.out; omega, HNl9.out, HO9.out⟩
          go_roundw
          case rel => exact ⟨k + 1, b, by omega, by go_num, rfl, hnew.out⟩
          case measure => simp [intOf]; omega
      · have hnl := HDU.out.up.disk.wf.len
        have HDk := Lib.hid HDU.out.up.disk
        have HK0 := Lib.hid HDU.out.up.kept
        have hg3 : d.good.length = 300 := by rw [← hnl]; exact HNl.out
        have HR1 : Hid (Kept Nob wr wr) := Kept.refl _ _
        have hmk := make64
        clear HDU hnl
        go_wp2_with fail
        go_loopw [21] (fun i w3 => ∃ j : Nat, j ≤ 300 ∧ i = .int .i64 j ∧ Kept Nob wr w3) (fun i _ => 300 - (intOf i).toNat)
        case atStart => exact ⟨0, by omega, rfl, HR1.out⟩
        case round =>
          clear HR1
          obtain ⟨j, hj, rfl, hkj⟩ := hrel
          have HKj := Lib.hid hkj
          clear hkj
          by_cases hltj : j < 300
          · have hX := Dsk.Sectors.getD HDk.out.wf.now (i := j) (by rw [HDk.out.wf.len]; omega)
            have HRd := Lib.hid (disk_read wr bd d F (HDk.out.kept HKj.out (fun _ _ f => f)) j (by omega))
            have HX := Lib.hid hX
            have HZ := Lib.hid (HOt.out j hltj)
            clear hX
            generalize d.now.getD j [] = x at *
            go_wp2_with fail
            refine HRd.out.mono ?_
            rintro e w4 ⟨b4, c4, rfl, ho4, hk4⟩
            rw [HX.out.1] at ho4 ⊢
            have HO4 := Lib.hid ho4
            have HK4 := Lib.hid (HKj.out.then hk4)
            clear ho4 hk4 HRd
            by_cases hin : j < frm
            · have e1 : (j : Int) < (frm : Int) := by omega
              have HBy := Lib.hid (bytes_rows (w4.alloc (.cells zero64 5)) _ _ x Dsk.zeroSector _ _ (HO4.out.alloc _).reads (own_zero64 w4).reads HX.out.2 zeroSector_bytes (by have := HX.out.1; omega) (by simp [Dsk.zeroSector]))
              have HZ2 := Lib.hid (HZ.out (.inl hin))
              go_wp2_with (go_at_call 22; refine HBy.out.mono ?_; rintro e w7 ⟨r7, n7, rfl, hr7, rfl⟩; obtain rfl : r7 = true := hr7.2 HZ2.out; clear hr7)
              have HN4 := Lib.hid ((HK4.out.then (Kept.alloc Nob w4 (.cells zero64 5))).then (Kept.drewN Nob _ n7))
              go_roundw
              case rel => exact ⟨j + 1, by omega, by go_num, HN4.out⟩
              case measure => simp [intOf]; omega
            · by_cases hin2 : frm + sec ≤ j
              · have e1 : ¬ (j : Int) < (frm : Int) := by omega
                have e2 : (frm : Int) + (sec : Int) ≤ (j : Int) := by omega
                have HBy := Lib.hid (bytes_rows (w4.alloc (.cells zero64 5)) _ _ x Dsk.zeroSector _ _ (HO4.out.alloc _).reads (own_zero64 w4).reads HX.out.2 zeroSector_bytes (by have := HX.out.1; omega) (by simp [Dsk.zeroSector]))
                have HZ2 := Lib.hid (HZ.out (.inr hin2))
                go_wp2_with (go_at_call 22; refine HBy.out.mono ?_; rintro e w7 ⟨r7, n7, rfl, hr7, rfl⟩; obtain rfl : r7 = true := hr7.2 HZ2.out; clear hr7)
                have HN4 := Lib.hid ((HK4.out.then (Kept.alloc Nob w4 (.cells zero64 5))).then (Kept.drewN Nob _ n7))
                go_roundw
                case rel => exact ⟨j + 1, by omega, by go_num, HN4.out⟩
                case measure => simp [intOf]; omega
              · have e1 : ¬ (j : Int) < (frm : Int) := by omega
                have e2 : ¬ (frm : Int) + (sec : Int) ≤ (j : Int) := by omega
                go_wp2_with fail
                go_roundw
                case rel => exact ⟨j + 1, by omega, by go_num, HK4.out⟩
                case measure => simp [intOf]; omega
          · go_wp2_with (go_at_call 10; refine (awake13 _).mono ?_; rintro e w5 ⟨rfl, hk5⟩)
            go_ret
            exact ⟨rfl, (HK0.out.then HKj.out).then hk5⟩
  · rw [decide_eq_false gs] at HSma
    go_enter Tryd.func3, Tryd.ntmps3
    go_wp2_with (first | (go_at_call 9; refine HSma.out.mono ?_; rintro e w' ⟨rfl, rfl⟩) | (go_at_call 10; refine (awake13 _).mono ?_; rintro e w' ⟨rfl, hk⟩))
    go_ret
    exact ⟨rfl, hk⟩
end Go.Proofs.YtcclbaphdblcfaaDoor
