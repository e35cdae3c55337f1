/- Law: WalApart. -/
import Derived.Test.YtcclbaphdblcfaaDoorPgWal29
namespace Go.Proofs.YtcclbaphdblcfaaDoor
open Go.RowKit

/-- inside WalApart: k rounds are done -/
def ApartRel (w : World) (bd ba bb ma mb k : Nat) (wr : World) : Prop :=
  ∃ (d : Dsk) (F : Nat → Prop) (N : Nat) (La : Wal.Lg) (Ra X : Nat → Prop) (fa : Nat) (alla : List (List Value)) (Lb : Wal.Lg) (Rb Y : Nat → Prop) (fb : Nat) (allb : List (List Value)),
    Duo w wr ba bd ma d La F Ra X fa alla N ∧ Duo w wr bb bd mb d Lb F Rb Y fb allb N ∧ Tells La fa alla ∧ Tells Lb fb allb ∧ La.frm = 0 ∧ La.half = 49 ∧ Lb.frm = 100 ∧ Lb.half = 49 ∧ Disj (Mem ba Ra ma X) (Mem bb Rb mb Y) ∧
    alla.length ≤ k ∧ allb.length ≤ k ∧ (∀ r ∈ alla, r.length ≤ 400) ∧ (∀ r ∈ allb, r.length ≤ 400) ∧ N ≤ 2 + 20000 * k ∧ d.now.length = 200

set_option maxRecDepth 100000 in
set_option maxHeartbeats 4000000 in
theorem apart_any (w : World) (la : Option Addr) (lc : Nat) (l : List Int) (ka : Option Addr) (kc : Nat) (keep : List Bool) (hl : Reads w (.slice la l.length lc) (l.map (Value.int .i64)) (fun _ => True)) (hkp : Reads w (.slice ka keep.length kc) (keep.map Value.bool) (fun _ => True)) (hT : Typed w) :
    Calls Tryd.prog 6 #[.slice la l.length lc, .slice ka keep.length kc] w (RetTrue w) := by
  by_cases g0 : 40 < l.length
  · go_enter Tryd.func6, Tryd.ntmps6
    go_wp2_with (go_at_call 10; refine (awake13 _).mono ?_; rintro e w' ⟨rfl, hk⟩)
    go_ret
    exact ⟨rfl, hk⟩
  by_cases g1 : 30 < keep.length
  · go_enter Tryd.func6, Tryd.ntmps6
    go_wp2_with (go_at_call 10; refine (awake13 _).mono ?_; rintro e w' ⟨rfl, hk⟩)
    go_ret
    exact ⟨rfl, hk⟩
  have HT := Lib.hid hT
  have HL0 := Lib.hid hl
  have HKp := Lib.hid hkp
  clear hT hl hkp
  go_enter Tryd.func6, Tryd.ntmps6
  go_wp2_with fail
  refine (disk_new w 200 (by omega) (by omega)).mono ?_
  rintro e w1 ⟨bd, rfl, hD1, hk1⟩
  have HOp := Lib.hid (show Calls Tryd.prog 12 #[.pointer (some ⟨bd, 0, none⟩), .int .i64 0, .int .i64 100] w1 _ from log_open0 w1 bd (Dsk.fresh 200) _ hD1 (Wal.Live.fresh 200) (by decide) 100 (by omega) (by decide) _ (fresh_on 200 0 100 (by omega) (by omega)) rfl rfl)
  have HK1 := Lib.hid hk1
  clear hD1 hk1
  go_wp2_with fail
  refine HOp.out.mono ?_
  rintro e w2 hop
  obtain ⟨ba, F2, Ra, rfl, hU2, -, -, -⟩ := Up.opened (w0 := w) (N := 0) (Wal.Live.fresh 200) (fresh_on 200 0 100 (by omega) (by omega)) (by decide) HK1.out (fun x hx => hx.1) hop
  rw [show ((100 - 0 - 1) / 2 : Nat) = 49 from rfl] at hU2
  have hn2 : (Dsk.fresh 200).sync.1.now = (Dsk.fresh 200).now := (Wal.sync_now (Wal.Live.fresh 200)).1
  have hon2 : Wal.On (Dsk.fresh 200).sync.1.now (Wal.Lg.none 100 49) := by rw [hn2]; exact fresh_on 200 100 200 (by omega) (by omega)
  have hl2 : (Dsk.fresh 200).sync.1.now.length = 200 := by rw [hn2]; simp [Dsk.fresh]
  generalize (Dsk.fresh 200).sync.1 = d2 at hU2 hon2 hl2
  have hgl := hU2.disk.wf.len
  have HOp2 := Lib.hid (show Calls Tryd.prog 12 #[.pointer (some ⟨bd, 0, none⟩), .int .i64 100, .int .i64 200] w2 _ from log_open w2 bd d2 F2 hU2.disk hU2.live (by have := hU2.ops; omega) 100 200 (by omega) (by omega) (Wal.Lg.none 100 49) hon2 rfl rfl)
  have HU2 := Lib.hid hU2
  have HOn2 := Lib.hid hon2
  have HL2 := Lib.hid hl2
  clear hop hU2 HOp hn2 hon2 hl2 hgl
  go_wp2_with fail
  refine HOp2.out.mono ?_
  rintro e w3 hop
  obtain ⟨bb, F3, Rb, rfl, hUa, hUb, hbb, hRb, hk3, hn3⟩ := HU2.out.besideOpen HOn2.out hop
  have HR0 : Hid (ApartRel w bd ba bb w3.heap.size (w3.heap.size + 1) 0 ((w3.alloc (.cells #[.int .i64 0, .slice none 0 0] 36)).alloc (.cells #[.int .i64 0, .slice none 0 0] 36))) := by
    have kx := Kept.alloc Nob w3 (.cells #[.int .i64 0, .slice none 0 0] 36)
    have dx := Duo.start hUa
    have dy := Duo.start (hUb.nob kx)
    rw [show (w3.alloc (.cells #[.int .i64 0, .slice none 0 0] 36)).heap.size = w3.heap.size + 1 from by simp] at dy
    have ha := HU2.out.log.lt
    have hau := HU2.out.log.under
    have hs3 := hk3.size
    refine Lib.hid ⟨_, F3, 2, _, Ra, _, 0, [], _, Rb, _, 0, [], dx.nob (Kept.alloc Nob _ _), dy, Tells.none 0 49, Tells.none 100 49, rfl, rfl, rfl, rfl, fun x q q2 => ?_, by simp, by simp, (fun r h => by cases h), (fun r h => by cases h), by omega, by rw [hn3]; exact HL2.out⟩
    have hbl := hUb.log.lt
    have hRu := hUb.log.under
    have hA : x < w2.heap.size ∨ x = w3.heap.size := by
      rcases q with q | q | q | q
      · exact .inl (by omega)
      · exact .inl (hau x q)
      · exact .inr q
      · exact q.elim
    have hB : (w2.heap.size ≤ x ∧ x < w3.heap.size) ∨ x = w3.heap.size + 1 := by
      rcases q2 with q | q | q | q
      · exact .inl (by omega)
      · exact .inl ⟨hRb x q, hRu x q⟩
      · exact .inr q
      · exact q.elim
    omega
  clear HU2 HOn2 HOp2 hop hUa hUb hbb hRb hk3 hn3
  go_wp2_with fail
  generalize w3.heap.size + 1 = mb at *
  generalize w3.heap.size = ma at *
  go_loopw [13] (fun i wr => ∃ k : Nat, k ≤ l.length ∧ i = .int .i64 k ∧ ApartRel w bd ba bb ma mb k wr) (fun i _ => l.length - (intOf i).toNat)
  case atStart => exact ⟨0, Nat.zero_le _, rfl, HR0.out⟩
  case round =>
    clear HR0
    obtain ⟨k, hk, rfl, d, F, N, La, Ra, X, fa, alla, Lb, Rb, Y, fb, allb, hDa, hDb, hTa, hTb, hFa, hHa, hFb, hHb, hX, hAa, hAb, hRa, hRb, hN, hNl⟩ := hrel
    have HDa := Lib.hid hDa
    have HDb := Lib.hid hDb
    have HTa := Lib.hid hTa
    have HTb := Lib.hid hTb
    have HFa := Lib.hid hFa
    have HHa := Lib.hid hHa
    have HFb := Lib.hid hFb
    have HHb := Lib.hid hHb
    have HX := Lib.hid hX
    have HAa := Lib.hid hAa
    have HAb := Lib.hid hAb
    have HRla := Lib.hid hRa
    have HRlb := Lib.hid hRb
    have HN := Lib.hid hN
    have HNl := Lib.hid hNl
    have HMa := Lib.hid hDa.mem
    have HMb := Lib.hid hDb.mem
    have hla : alla.length ≤ 40 := by omega
    have hlb : allb.length ≤ 40 := by omega
    clear hDa hDb hTa hTb hFa hHa hFb hHb hX hAa hAb hRa hRb hN hNl
    by_cases hlt : k < l.length
    · obtain ⟨lb, lo, x, hla0, hx, hc, -⟩ := (HL0.out.kept HDa.out.up.kept (fun _ _ f => f)).cell (i := k) (by simpa using hlt)
      subst hla0
      obtain ⟨v, hv⟩ : ∃ v, l[k]? = some v := ⟨l[k], List.getElem?_eq_getElem hlt⟩
      simp only [List.getElem?_map, hv, Option.map_some, Option.some.injEq] at hx
      subst hx
      obtain ⟨size, hsize⟩ : ∃ s : Nat, v % 200 = (s : Int) := ⟨(v % 200).toNat, by omega⟩
      have hsz : size < 200 := by omega
      have HRo := Lib.hid (fun W => round_any W v 200 (by omega) (by omega))
      rw [hsize] at HRo
      have HRc0 := Lib.hid (show Calls Tryd.prog 14 #[.int .i64 k, .int .i64 1, .int .i64 size] wr _ from recs_any wr k 1 size (by omega) (by omega) (by omega))
      clear hv hsize
      go_wp2_with (go_at_call 13; refine (HRo.out _).mono ?_; rintro e w' ⟨rfl, rfl⟩)
      refine HRc0.out.mono ?_
      rintro e w4 ⟨vb, vc, rfl, ho4, hk4⟩
      have hRl := recRows_length k 1 size
      have hRs := recRows_rec k 1 size (by omega)
      generalize recRows k 1 size = rs at hRl hRs ho4
      have HRl := Lib.hid hRl
      have HRs := Lib.hid (fun r hr => by have := (hRs r hr).2; omega : ∀ r ∈ rs, r.length ≤ 400)
      have HRc := Lib.hid (fun r hr => (hRs r hr).1 : ∀ r ∈ rs, Wal.Rec r)
      have HD4a := Lib.hid (HDa.out.nob hk4)
      have HD4b := Lib.hid (HDb.out.nob hk4)
      have HK4 := Lib.hid hk4
      have HO4 := Lib.hid ho4
      clear hRl hRs ho4 hk4 hc HRo HRc0
      by_cases hev : k % 2 = 0
      · have e1 : (k : Int) % 2 = 0 := by omega
        have e2 : ¬ (k : Int) % 2 = 1 := by omega
        obtain ⟨us, hS4⟩ := Side.fresh HDa.out HK4.out HO4.out
        have HS4 := Lib.hid hS4
        clear hS4 HO4
        by_cases hroom : Roomy (alla.drop fa) rs 100
        · have hrm := room_any w4 ma fa alla X HD4a.out.x HTa.out.le (by omega) (fun r hr => by have := HRla.out r hr; omega) _ us rs _ HS4.out.v HS4.out.rows (by rw [HRl.out]; omega) (fun r hr => by have := HRs.out r hr; omega) 100 (by omega)
          rw [decide_eq_true hroom] at hrm
          have HRm0 := Lib.hid (show Calls Tryd.prog 17 #[.pointer (some ⟨ma, 0, none⟩), .slice vb 1 vc, .int .i64 100] w4 (fun e w' => e = .returned (.bool true) ∧ Kept Nob w4 w') from hrm.mono fun e w' ⟨h1, nn, h2⟩ => ⟨h1, h2 ▸ Kept.drewN Nob w4 nn⟩)
          have HMay := Lib.hid (show La.may rs = true from Roomy.may (frm := 0) (til := 100) (by rw [HTa.out.recs]; exact hroom) HHa.out (by omega))
          clear hroom hrm
          go_wp2_with (go_at_call 17; refine HRm0.out.mono ?_; rintro e w5 ⟨rfl, hk5⟩)
          have hD5 := HD4a.out.nob hk5
          have hD5' := HD4b.out.nob hk5
          have hS5 := HS4.out.nob hk5
          refine (hD5.appendX hS5 HTa.out HRc.out (by rw [HRl.out]; omega) (by rw [HRl.out]; omega) (by rw [HRl.out]; omega) (by have := HN.out; omega) HMay.out).mono ?_
          rintro e w7 ⟨rfl, d7, F7, R7, hD7, hS7, hst7, hk7, hgF7, hgR7⟩
          have hs5 := hk5.size
          have hO7 := hD5'.other hD7.up.disk hk7 hgF7 (fun q => HX.out ba (.inl rfl) q) hD5.up.newB hst7 (by rw [HFa.out, HFb.out, HHa.out, HHb.out]; omega)
          obtain ⟨av, vs1, Z, hb7, hav7, hvs7, -, -⟩ := hD7.x
          obtain ⟨aa, ac, rfl, -⟩ := hav7.reads.shape
          have hl7 := hvs7.1
          have c17 : w7.cell? ⟨ma, 1, none⟩ = some (.slice aa vs1.length ac) := cell_at hb7 1 _ rfl
          have HD7 := Lib.hid hD7
          have HO7 := Lib.hid hO7
          have HS7 := Lib.hid hS7
          have HB7 := Lib.hid hb7
          have HAv7 := Lib.hid hav7
          have HVs7 := Lib.hid hvs7
          have HL7 := Lib.hid hl7
          have HU := Lib.hid (hS7.rows.1.trans HRl.out)
          have HMl := Lib.hid hD7.x.lt
          have HNl7 := Lib.hid (hst7.len.trans HNl.out)
          have HgR7 := Lib.hid (show Grows Ra wr.heap.size R7 from fun x q => (hgR7 x q).imp id fun q => by have := HK4.out.size; omega)
          have hs7 := hk7.size
          have HK47 := Lib.hid (show w4.heap.size ≤ w7.heap.size by omega)
          clear hD5 hD5' hS5 hD7 hO7 hS7 hb7 hav7 hvs7 hl7 hst7 hk7 hgF7 hgR7 hs5 hs7 hk5 HRm0
          go_wp2_with (at_builtin; refine wpList_append_pg rfl _ _ 34 rfl tRows (.slice aa vs1.length ac) (.slice vb 1 vc) vs1 us _ _ rfl rfl HAv7.out HS7.out.v HS7.out.rows.one (by have h1 := HL7.out; have h2 := HU.out; omega) ?_; intro b8 c8 w8 ho8 hk8 _; have hb8 := (hk8.block ma HMl.out (fun q => (HD7.out.x.notM) (HAv7.out.2 ma q).1)).trans HB7.out; have c18 : w8.cell? ⟨ma, 1, none⟩ = some (.slice aa vs1.length ac) := cell_at hb8 1 _ rfl; have f18 : w8.frozen? ⟨ma, 1, none⟩ = false := frozen_at hb8 1; have HO8 := Lib.hid ho8; have HK8 := Lib.hid hk8; clear ho8 hk8 hb8)
          have hDn := Duo.more HD7.out HB7.out HAv7.out HVs7.out HS7.out HRc.out HO8.out HK8.out
          have hkk : Kept (fun x => x = ma ∨ X x) w7 (w8.setCell ⟨ma, 1, none⟩ (.slice b8 (vs1.length + us.length) c8)) := (HK8.out.mono fun x _ q => .inr (HAv7.out.2 x q).1).trans (kept1 w8 ma 1 _) (fun x _ q => .inl q)
          have hOn := HO7.out.besides hkk (fun x f q => q.elim (fun q => HD7.out.mF (q ▸ f)) (fun q => HD7.out.xF x q f)) (fun x q2 q => q.elim (fun q => HX.out x (.inr (.inr (.inl q))) q2) (fun q => HX.out x (.inr (.inr (.inr q))) q2)) (fun x hx q => q.elim (fun q => by have := HD7.out.newM; omega) (fun q => by have := HD7.out.newX x q; omega))
          have hcr := Mem.grows (w := wr) HX.out HMb.out (R' := R7) (X' := fun x => X x ∨ (wr.heap.size ≤ x ∧ x < w4.heap.size) ∨ (w7.heap.size ≤ x ∧ x < w8.heap.size)) HgR7.out (fun x q => by
            rcases q with q | q | q
            · exact .inl q
            · exact .inr q.1
            · exact .inr (by have := HK47.out; have := HK4.out.size; omega))
          have hnew : Hid (ApartRel w bd ba bb ma mb (k + 1) (w8.setCell ⟨ma, 1, none⟩ (.slice b8 (vs1.length + us.length) c8))) := by
            refine Lib.hid ⟨d7, F7, N + 20000, _, R7, _, fa, alla ++ rs, Lb, Rb, Y, fb, allb, hDn, hOn, HTa.out.grow rs, HTb.out, (Wal.grow_frm _ _).trans HFa.out, (Wal.grow_half _ _).trans HHa.out, HFb.out, HHb.out, hcr, by rw [List.length_append, HRl.out]; have := HAa.out; omega, by have := HAb.out; omega, fun r hr => (List.mem_append.1 hr).elim (HRla.out r) (HRs.out r), HRlb.out, by have := HN.out; omega, HNl7.out⟩
          clear hDn hOn hcr hkk
          go_roundw
          case rel => exact ⟨k + 1, by omega, by go_num, hnew.out⟩
          case measure => simp [intOf]; omega
        · have hrm := room_any w4 ma fa alla X HD4a.out.x HTa.out.le (by omega) (fun r hr => by have := HRla.out r hr; omega) _ us rs _ HS4.out.v HS4.out.rows (by rw [HRl.out]; omega) (fun r hr => by have := HRs.out r hr; omega) 100 (by omega)
          rw [decide_eq_false hroom] at hrm
          have HRm0 := Lib.hid (show Calls Tryd.prog 17 #[.pointer (some ⟨ma, 0, none⟩), .slice vb 1 vc, .int .i64 100] w4 (fun e w' => e = .returned (.bool false) ∧ Kept Nob w4 w') from hrm.mono fun e w' ⟨h1, nn, h2⟩ => ⟨h1, h2 ▸ Kept.drewN Nob w4 nn⟩)
          clear hroom hrm
          go_wp2_with (go_at_call 17; refine HRm0.out.mono ?_; rintro e w5 ⟨rfl, hk5⟩)
          have hnew : Hid (ApartRel w bd ba bb ma mb (k + 1) w5) :=
            Lib.hid ⟨d, F, N, La, Ra, X, fa, alla, Lb, Rb, Y, fb, allb, HD4a.out.nob hk5, HD4b.out.nob hk5, HTa.out, HTb.out, HFa.out, HHa.out, HFb.out, HHb.out, HX.out, by have := HAa.out; omega, by have := HAb.out; omega, HRla.out, HRlb.out, by have := HN.out; omega, HNl.out⟩
          clear hk5
          go_roundw
          case rel => exact ⟨k + 1, by omega, by go_num, hnew.out⟩
          case measure => simp [intOf]; omega
      · have e1 : ¬ (k : Int) % 2 = 0 := by omega
        have e2 : (k : Int) % 2 = 1 := by omega
        obtain ⟨us, hS4⟩ := Side.fresh HDb.out HK4.out HO4.out
        have HS4 := Lib.hid hS4
        clear hS4 HO4
        by_cases hroom : Roomy (allb.drop fb) rs 100
        · have hrm := room_any w4 mb fb allb Y HD4b.out.x HTb.out.le (by omega) (fun r hr => by have := HRlb.out r hr; omega) _ us rs _ HS4.out.v HS4.out.rows (by rw [HRl.out]; omega) (fun r hr => by have := HRs.out r hr; omega) 100 (by omega)
          rw [decide_eq_true hroom] at hrm
          have HRm0 := Lib.hid (show Calls Tryd.prog 17 #[.pointer (some ⟨mb, 0, none⟩), .slice vb 1 vc, .int .i64 100] w4 (fun e w' => e = .returned (.bool true) ∧ Kept Nob w4 w') from hrm.mono fun e w' ⟨h1, nn, h2⟩ => ⟨h1, h2 ▸ Kept.drewN Nob w4 nn⟩)
          have HMay := Lib.hid (show Lb.may rs = true from Roomy.may (frm := 100) (til := 200) (by rw [HTb.out.recs]; exact hroom) HHb.out (by omega))
          clear hroom hrm
          go_wp2_with (go_at_call 17; refine HRm0.out.mono ?_; rintro e w5 ⟨rfl, hk5⟩)
          have hD5 := HD4b.out.nob hk5
          have hD5' := HD4a.out.nob hk5
          have hS5 := HS4.out.nob hk5
          refine (hD5.appendX hS5 HTb.out HRc.out (by rw [HRl.out]; omega) (by rw [HRl.out]; omega) (by rw [HRl.out]; omega) (by have := HN.out; omega) HMay.out).mono ?_
          rintro e w7 ⟨rfl, d7, F7, R7, hD7, hS7, hst7, hk7, hgF7, hgR7⟩
          have hs5 := hk5.size
          have hO7 := hD5'.other hD7.up.disk hk7 hgF7 (fun q => HX.out.symm bb (.inl rfl) q) hD5.up.newB hst7 (by rw [HFb.out, HFa.out, HHb.out, HHa.out]; omega)
          obtain ⟨av, vs1, Z, hb7, hav7, hvs7, -, -⟩ := hD7.x
          obtain ⟨aa, ac, rfl, -⟩ := hav7.reads.shape
          have hl7 := hvs7.1
          have c17 : w7.cell? ⟨mb, 1, none⟩ = some (.slice aa vs1.length ac) := cell_at hb7 1 _ rfl
          have HD7 := Lib.hid hD7
          have HO7 := Lib.hid hO7
          have HS7 := Lib.hid hS7
          have HB7 := Lib.hid hb7
          have HAv7 := Lib.hid hav7
          have HVs7 := Lib.hid hvs7
          have HL7 := Lib.hid hl7
          have HU := Lib.hid (hS7.rows.1.trans HRl.out)
          have HMl := Lib.hid hD7.x.lt
          have HNl7 := Lib.hid (hst7.len.trans HNl.out)
          have HgR7 := Lib.hid (show Grows Rb wr.heap.size R7 from fun x q => (hgR7 x q).imp id fun q => by have := HK4.out.size; omega)
          have hs7 := hk7.size
          have HK47 := Lib.hid (show w4.heap.size ≤ w7.heap.size by omega)
          clear hD5 hD5' hS5 hD7 hO7 hS7 hb7 hav7 hvs7 hl7 hst7 hk7 hgF7 hgR7 hs5 hs7 hk5 HRm0
          go_wp2_with (at_builtin; refine wpList_append_pg rfl _ _ 34 rfl tRows (.slice aa vs1.length ac) (.slice vb 1 vc) vs1 us _ _ rfl rfl HAv7.out HS7.out.v HS7.out.rows.one (by have h1 := HL7.out; have h2 := HU.out; omega) ?_; intro b8 c8 w8 ho8 hk8 _; have hb8 := (hk8.block mb HMl.out (fun q => (HD7.out.x.notM) (HAv7.out.2 mb q).1)).trans HB7.out; have c18 : w8.cell? ⟨mb, 1, none⟩ = some (.slice aa vs1.length ac) := cell_at hb8 1 _ rfl; have f18 : w8.frozen? ⟨mb, 1, none⟩ = false := frozen_at hb8 1; have HO8 := Lib.hid ho8; have HK8 := Lib.hid hk8; clear ho8 hk8 hb8)
          have hDn := Duo.more HD7.out HB7.out HAv7.out HVs7.out HS7.out HRc.out HO8.out HK8.out
          have hkk : Kept (fun x => x = mb ∨ Y x) w7 (w8.setCell ⟨mb, 1, none⟩ (.slice b8 (vs1.length + us.length) c8)) := (HK8.out.mono fun x _ q => .inr (HAv7.out.2 x q).1).trans (kept1 w8 mb 1 _) (fun x _ q => .inl q)
          have hOn := HO7.out.besides hkk (fun x f q => q.elim (fun q => HD7.out.mF (q ▸ f)) (fun q => HD7.out.xF x q f)) (fun x q2 q => q.elim (fun q => HX.out.symm x (.inr (.inr (.inl q))) q2) (fun q => HX.out.symm x (.inr (.inr (.inr q))) q2)) (fun x hx q => q.elim (fun q => by have := HD7.out.newM; omega) (fun q => by have := HD7.out.newX x q; omega))
          have hcr := Mem.grows (w := wr) HX.out.symm HMa.out (R' := R7) (X' := fun x => Y x ∨ (wr.heap.size ≤ x ∧ x < w4.heap.size) ∨ (w7.heap.size ≤ x ∧ x < w8.heap.size)) HgR7.out (fun x q => by
            rcases q with q | q | q
            · exact .inl q
            · exact .inr q.1
            · exact .inr (by have := HK47.out; have := HK4.out.size; omega))
          have hnew : Hid (ApartRel w bd ba bb ma mb (k + 1) (w8.setCell ⟨mb, 1, none⟩ (.slice b8 (vs1.length + us.length) c8))) := by
            refine Lib.hid ⟨d7, F7, N + 20000, La, Ra, X, fa, alla, _, R7, _, fb, allb ++ rs, hOn, hDn, HTa.out, HTb.out.grow rs, HFa.out, HHa.out, (Wal.grow_frm _ _).trans HFb.out, (Wal.grow_half _ _).trans HHb.out, hcr.symm, by have := HAa.out; omega, by rw [List.length_append, HRl.out]; have := HAb.out; omega, HRla.out, fun r hr => (List.mem_append.1 hr).elim (HRlb.out r) (HRs.out r), by have := HN.out; omega, HNl7.out⟩
          clear hDn hOn hcr hkk
          go_roundw
          case rel => exact ⟨k + 1, by omega, by go_num, hnew.out⟩
          case measure => simp [intOf]; omega
        · have hrm := room_any w4 mb fb allb Y HD4b.out.x HTb.out.le (by omega) (fun r hr => by have := HRlb.out r hr; omega) _ us rs _ HS4.out.v HS4.out.rows (by rw [HRl.out]; omega) (fun r hr => by have := HRs.out r hr; omega) 100 (by omega)
          rw [decide_eq_false hroom] at hrm
          have HRm0 := Lib.hid (show Calls Tryd.prog 17 #[.pointer (some ⟨mb, 0, none⟩), .slice vb 1 vc, .int .i64 100] w4 (fun e w' => e = .returned (.bool false) ∧ Kept Nob w4 w') from hrm.mono fun e w' ⟨h1, nn, h2⟩ => ⟨h1, h2 ▸ Kept.drewN Nob w4 nn⟩)
          clear hroom hrm
          go_wp2_with (go_at_call 17; refine HRm0.out.mono ?_; rintro e w5 ⟨rfl, hk5⟩)
          have hnew : Hid (ApartRel w bd ba bb ma mb (k + 1) w5) :=
            Lib.hid ⟨d, F, N, La, Ra, X, fa, alla, Lb, Rb, Y, fb, allb, HD4a.out.nob hk5, HD4b.out.nob hk5, HTa.out, HTb.out, HFa.out, HHa.out, HFb.out, HHb.out, HX.out, by have := HAa.out; omega, by have := HAb.out; omega, HRla.out, HRlb.out, by have := HN.out; omega, HNl.out⟩
          clear hk5
          go_roundw
          case rel => exact ⟨k + 1, by omega, by go_num, hnew.out⟩
          case measure => simp [intOf]; omega
    · have HS0 := Lib.hid HDa.out.up.kept.size
      have hcr := HDa.out.crash (.slice ka keep.length kc) keep _ (HKp.out.kept HDa.out.up.kept (fun _ _ f => f)) (by omega) 0
      have hwf := HDa.out.up.disk.wf
      have hcm := HDa.out.up.calm
      have HOnb := Lib.hid (crash_on hwf hcm keep 0 HDb.out.up.on).1
      have HCr := Lib.hid hcr
      clear hcr hwf hcm
      go_wp2_with fail
      refine HCr.out.mono ?_
      rintro e w9 ⟨bc, rfl, hL9, hk9, hn9⟩
      have HL9 := Lib.hid hL9
      have HK9 := Lib.hid hk9
      have HN9 := Lib.hid (hn9.trans HNl.out)
      have hgl := hL9.disk.wf.len
      have hn9' : (d.crash keep 0).now.length = 200 := HN9.out
      have HOp := Lib.hid (log_open0 w9 bc _ _ hL9.disk hL9.live (by have := hL9.ops; omega) 100 (by omega) (by omega) La hL9.on HFa.out (by rw [HHa.out]))
      have HOp' := Lib.hid (show Calls Tryd.prog 12 #[.pointer (some ⟨bc, 0, none⟩), .int .i64 0, .int .i64 100] w9 _ from HOp.out)
      clear hL9 hk9 hn9 hgl hn9' HCr HOp
      go_wp2_with fail
      refine HOp'.out.mono ?_
      rintro e w10 ⟨bp, R10, F10, rfl, q1, q2, q3, q4, q5, q6, q7, q8⟩
      have hsy := Wal.sync_now HL9.out.live
      have hgl := q2.wf.len
      have hn10 : (d.crash keep 0).sync.1.now.length = 200 := by rw [hsy.1]; exact HN9.out
      have hob : Wal.On (d.crash keep 0).sync.1.now Lb := by rw [hsy.1]; exact HOnb.out
      have hop2 := log_open w10 bc _ F10 q2 HL9.out.live.sync (by rw [hsy.2.2]; have := HL9.out.ops; omega) 100 200 (by omega) (by omega) Lb hob HFb.out (by rw [HHb.out])
      have HOp2 := Lib.hid (show Calls Tryd.prog 12 #[.pointer (some ⟨bc, 0, none⟩), .int .i64 100, .int .i64 200] w10 _ from hop2)
      have hs9 := HK9.out.size
      have nn9 : ∀ x, x < wr.heap.size → ¬ (wr.heap.size ≤ x ∧ x < w9.heap.size) := fun x h q => by omega
      have nn10 : ∀ x, F10 x → wr.heap.size ≤ x := fun x q => by
        rcases q3 x q with f | f
        · exact f.1
        · omega
      have HP10 := Lib.hid q1
      have HP6 := Lib.hid q6
      have HP7 := Lib.hid q7
      have HNN := Lib.hid nn10
      have HA10 := Lib.hid ((HDa.out.up.log.kept HK9.out (fun f => f) (fun _ _ f => f)).kept q8 (nn9 _ HDa.out.up.log.lt) (fun x hx => nn9 x (HDa.out.up.log.under x hx)))
      have HB10 := Lib.hid ((HDb.out.up.log.kept HK9.out (fun f => f) (fun _ _ f => f)).kept q8 (nn9 _ HDb.out.up.log.lt) (fun x hx => nn9 x (HDb.out.up.log.under x hx)))
      have HX10 := Lib.hid ((HDa.out.x.kept HK9.out (fun f => f) (fun _ _ f => f)).kept q8 (nn9 _ HDa.out.x.lt) (fun x hx => nn9 x (HDa.out.x.under x hx)))
      have HY10 := Lib.hid ((HDb.out.x.kept HK9.out (fun f => f) (fun _ _ f => f)).kept q8 (nn9 _ HDb.out.x.lt) (fun x hx => nn9 x (HDb.out.x.under x hx)))
      have HK10 : Hid (Kept Nob w w10) := Lib.hid ((HDa.out.up.kept.then HK9.out).from (n := wr.heap.size) HS0.out (q8.mono fun x _ q => q.1))
      clear hop2 q1 q2 q3 q4 q5 q6 q7 q8 hsy hgl hn10 hob hs9 nn9 nn10 HOp'
      go_wp2_with fail
      refine HOp2.out.mono ?_
      rintro e w11 ⟨bq, R11, F11, rfl, p1, p2, p3, p4, p5, p6, p7, p8⟩
      have no : ∀ x, x < wr.heap.size → ¬ F10 x := fun x h q => by have := HNN.out x q; omega
      have kA := HA10.out.kept p8 (no _ HDa.out.up.log.lt) (fun x hx => no x (HDa.out.up.log.under x hx))
      have kB := HB10.out.kept p8 (no _ HDb.out.up.log.lt) (fun x hx => no x (HDb.out.up.log.under x hx))
      have kX := HX10.out.kept p8 (no _ HDa.out.x.lt) (fun x hx => no x (HDa.out.x.under x hx))
      have kY := HY10.out.kept p8 (no _ HDb.out.x.lt) (fun x hx => no x (HDb.out.x.under x hx))
      have kP := HP10.out.kept p8 HP6.out HP7.out
      have HK11 : Hid (Kept Nob w w11) := Lib.hid (HK10.out.from (n := wr.heap.size) HS0.out (p8.mono fun x _ q => HNN.out x q))
      have hT11 := HT.out.kept HK11.out (fun f => f)
      have HS1 := Lib.hid (same_log w11 ma fa alla X kX bp bc La R10 kP HTa.out (by omega) HDa.out.recs hT11)
      have HS2 := Lib.hid (fun W (q : Kept Nob w11 W) => same_log W mb fb allb Y (kY.kept q (fun f => f) (fun _ _ f => f)) bq bc Lb R11 (p1.kept q (fun f => f) (fun _ _ f => f)) HTb.out (by omega) HDb.out.recs (hT11.kept q (fun f => f)))
      have HS3 := Lib.hid (fun W (q : Kept Nob w11 W) => same_log W ma fa alla X (kX.kept q (fun f => f) (fun _ _ f => f)) ba bd La Ra (kA.kept q (fun f => f) (fun _ _ f => f)) HTa.out (by omega) HDa.out.recs (hT11.kept q (fun f => f)))
      have HS4 := Lib.hid (fun W (q : Kept Nob w11 W) => same_log W mb fb allb Y (kY.kept q (fun f => f) (fun _ _ f => f)) bb bd Lb Rb (kB.kept q (fun f => f) (fun _ _ f => f)) HTb.out (by omega) HDb.out.recs (hT11.kept q (fun f => f)))
      clear p1 p2 p3 p4 p5 p6 p7 p8 no kA kB kX kY kP hT11 HOp2
      go_wp2_with (first
        | (go_at_call 19; (with_reducible refine HS1.out.mono ?_); rintro e w12 ⟨rfl, hk12⟩; have HK12 := Lib.hid hk12; clear hk12)
        | (go_at_call 19; (with_reducible refine (HS2.out _ HK12.out).mono ?_); rintro e w13 ⟨rfl, hk13⟩; have HK13 := Lib.hid (HK12.out.then hk13); clear hk13)
        | (go_at_call 19; (with_reducible refine (HS3.out _ HK13.out).mono ?_); rintro e w14 ⟨rfl, hk14⟩; have HK14 := Lib.hid (HK13.out.then hk14); clear hk14)
        | (go_at_call 19; (with_reducible refine (HS4.out _ HK14.out).mono ?_); rintro e w15 ⟨rfl, hk15⟩; have HK15 := Lib.hid (HK14.out.then hk15); clear hk15)
        | (go_at_call 10; refine (awake13 _).mono ?_; rintro e w16 ⟨rfl, hk16⟩))
      go_ret
      exact ⟨rfl, (HK11.out.then HK15.out).then hk16⟩

theorem apart_law (w : World) (lv kv : Value) (l : List Int) (keep : List Bool) (hl : Reads w lv (l.map (Value.int .i64)) (fun _ => True)) (hkp : Reads w kv (keep.map Value.bool) (fun _ => True)) (hT : Typed w) :
    Calls Tryd.prog 6 #[lv, kv] w (RetTrue w) := by
  obtain ⟨la, lc, rfl, -⟩ := hl.shape
  obtain ⟨ka, kc, rfl, -⟩ := hkp.shape
  simp only [List.length_map] at hl hkp ⊢
  exact apart_any w la lc l ka kc keep hl hkp hT
end Go.Proofs.YtcclbaphdblcfaaDoor
