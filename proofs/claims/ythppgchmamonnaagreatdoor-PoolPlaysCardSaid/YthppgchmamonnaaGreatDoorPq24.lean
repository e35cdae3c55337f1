/- Pages as bytes: Parse. Pages as bytes: what Bytes writes Parse reads. No program here. The pool: write, of a page that is held. The pool: read, of a page that was written. The pool: evict, of a page that is dirty. The pool: what lies on the disk behind a write of a page. No program here. -/
import Derived.Test.YthppgchmamonnaaGreatDoorPq23
namespace Go.Proofs.YthppgchmamonnaaGreatDoor
open Go.RowKit
theorem slots_parse_any (w : World) (v : Value) (ys : List Int) (F : Nat → Prop) (h : Reads w v (ys.map (Value.int .u8)) F) (hl : ys.length = 512) (hB : InB ys) :
    Calls Tryz.prog 100 #[v] w (RetParse w ys) := by
  by_cases h60 : ys.getD 1 0 ≤ 60
  · exact slots_parse w v ys F h hl hB h60
  · refine (slots_parse_many w v ys F h hl (by omega)).mono fun e w' hr => ⟨fun _ => hr, fun p hp => ?_⟩
    rw [parseOf, if_pos (by omega)] at hp
    cases hp
theorem slots_Parse (w : World) (v : Value) (ys : List Int) (F : Nat → Prop) (h : Reads w v (ys.map (Value.int .u8)) F) (hl : ys.length = 512) (hB : InB ys) (p : PgM) (hp : parseOf ys = some p) :
    Calls Tryz.prog 68 #[v] w fun e w' => ∃ pg, e = .returned (.tuple #[.pointer (some ⟨pg, 0, none⟩), .nilIface]) ∧ w.heap.size ≤ pg ∧ PageAt w' pg p (fun x => w.heap.size ≤ x ∧ x ≠ pg) ∧ Kept Nob w w' := by
  obtain ⟨va, vc, rfl, -⟩ := h.shape
  rw [List.length_map, hl] at h ⊢
  have H : Hid (Calls Tryz.prog 100 #[.slice va 512 vc] w fun e w' => ∃ pg, e = .returned (.pointer (some ⟨pg, 0, none⟩)) ∧ w.heap.size ≤ pg ∧ PageAt w' pg p (fun x => w.heap.size ≤ x ∧ x ≠ pg) ∧ Kept Nob w w') :=
    Lib.hid ((slots_parse_any w _ ys F h hl hB).mono fun e w' hr => hr.2 p hp)
  clear h hl hB hp
  go_enter Tryz.func68, Tryz.ntmps68
  go_wp2_with (go_at_call 100; (with_reducible refine H.out.mono ?_); rintro e w1 ⟨pg, rfl, hpg, hpa, hk⟩; have HP := Lib.hid hpa; have HG := Lib.hid hpg; have HK := Lib.hid hk; clear hpa hpg hk)
  go_ret2
  exact ⟨pg, rfl, HG.out, HP.out, HK.out⟩
theorem slots_Parse_no (w : World) (v : Value) (ys : List Int) (F : Nat → Prop) (h : Reads w v (ys.map (Value.int .u8)) F) (hl : ys.length = 512) (hB : InB ys) (hp : parseOf ys = none) :
    Calls Tryz.prog 68 #[v] w fun e w' => ∃ g, e = .returned (.tuple #[.pointer none, .iface 81 (.pointer (some ⟨g, 0, none⟩))]) ∧ FaultAt w' (.iface 81 (.pointer (some ⟨g, 0, none⟩))) opPage 0 10 (From w.heap.size) ∧ Kept Nob w w' := by
  obtain ⟨va, vc, rfl, -⟩ := h.shape
  rw [List.length_map, hl] at h ⊢
  have H : Hid (Calls Tryz.prog 100 #[.slice va 512 vc] w fun e w' => e = .returned (.pointer none) ∧ Kept Nob w w') :=
    Lib.hid ((slots_parse_any w _ ys F h hl hB).mono fun e w' hr => hr.1 hp)
  have HB := fun w => Lib.hid (page_blame w 0 10)
  clear h hl hB hp
  go_enter Tryz.func68, Tryz.ntmps68
  go_wp2_with (first
    | (go_at_call 100; (with_reducible refine H.out.mono ?_); rintro e w1 ⟨rfl, hk⟩; have HK := Lib.hid hk; clear hk)
    | (go_at_call 82; (with_reducible refine (HB _).out.mono ?_); rintro e w2 ⟨g1, rfl, ho1, hk1⟩; have HO := Lib.hid ho1; have HK1 := Lib.hid hk1; clear ho1 hk1))
  go_ret2
  exact ⟨g1, rfl, HO.out.mono fun x _ hx => Nat.le_trans HK.out.size hx, HK.out.then HK1.out⟩
theorem bytesOf_length (p : PgM) (hu : usedOf p.ss ≤ 512) : (bytesOf p).length = 512 := by
  rw [bytesOf, put4_length, bytesUpTo_length p hu _ (Nat.le_refl _)]
structure PgM.Good (p : PgM) : Prop where
  kind : 0 ≤ p.kind ∧ p.kind < 256
  id : 0 ≤ p.id ∧ p.id < 4294967296
  len : p.ss.length ≤ 60
  size : ∀ s ∈ p.ss, slotLen s ≤ 400
  used : usedOf p.ss ≤ 512
  last : p.ss.getLast? ≠ some none
def RetPageOf (w : World) (b bd mb : Nat) (P : Pl) (S : Nat → Prop) (p : PgM) (en : Ending) (w' : World) : Prop :=
  ∃ pg, en = .returned (.tuple #[.pointer (some ⟨pg, 0, none⟩), .nilIface]) ∧ w.heap.size ≤ pg ∧ PageAt w' pg p (fun x => w.heap.size ≤ x ∧ x ≠ pg) ∧ PoolAt w' b bd mb { P with reads := P.reads + 1 } S ∧ Kept (Just b) w w'
set_option maxRecDepth 100000 in
set_option maxHeartbeats 2000000 in
theorem pool_read_page (w : World) (b bd mb : Nat) (P : Pl) (S : Nat → Prop) (h : PoolAt w b bd mb P S) (d : Dsk) (F : Nat → Prop) (hD : DiskAt w bd d F) (k : Nat) (hk : 8 * k + 8 ≤ d.good.length) (p : PgM) (hz : Wal.flat d.now (8 * k) 8 = (bytesOf p).map (Value.int .u8)) (hpo : parseOf (bytesOf p) = some p) (hln : (bytesOf p).length = 512) (hib : InB (bytesOf p)) (hnz : ∃ r ∈ bytesOf p, r ≠ 0) (hid : p.id = (k : Int)) (hr : P.reads ≤ 1000000000000) :
    Calls Tryz.prog 36 #[.pointer (some ⟨b, 0, none⟩), .int .i64 k] w (RetPageOf w b bd mb P S p) := by
  have hm := hD.wf.most
  have HP := Lib.hid h
  have HD := Lib.hid hD
  have HZ := Lib.hid hz
  have hnn : Hid (decide (0 ≤ nzAt (bytesOf p) 0) = true) := Lib.hid (by obtain ⟨r, hr1, hr2⟩ := hnz; exact decide_eq_true (nzAt_some _ _ r hr1 hr2))
  have HPo := Lib.hid hpo
  have HLn := Lib.hid hln
  have HIb := Lib.hid hib
  have HId := Lib.hid hid
  clear hnz hpo hln hib hid
  generalize bytesOf p = ys at *
  have hkb : k ≤ 2000 := by omega
  have HR0 : Hid (PReadRel w d.now (8 * k) 0 (.slice none 0 0) w) := ⟨none, 0, rfl, Own.nil _ _ _, Kept.refl _ _⟩
  clear h hD hz
  go_enter Tryz.func36, Tryz.ntmps36
  go_wp2
  go_loopw [6, 12] (fun o i wr => ∃ j : Nat, j ≤ 8 ∧ i = .int .i64 j ∧ PReadRel w d.now (8 * k) j o wr) (fun _ i _ => 8 - (intOf i).toNat)
  case atStart => exact ⟨0, by omega, rfl, HR0.out⟩
  case round =>
    clear HR0
    obtain ⟨j, hj, rfl, ob, oc, rfl, ho, hkw⟩ := hrel
    have HO := Lib.hid ho
    have HK := Lib.hid hkw
    have hPr := HP.out.nob hkw
    have c0 : wr.cell? ⟨b, 0, none⟩ = some (.pointer (some ⟨bd, 0, none⟩)) := cell_at hPr.head 0 _ rfl
    have c7 : wr.cell? ⟨b, 7, none⟩ = some (.int .i64 P.reads) := cell_at hPr.head 7 _ rfl
    have f7 : wr.frozen? ⟨b, 7, none⟩ = false := frozen_at hPr.head 7
    have HPr := Lib.hid hPr
    clear ho hkw hPr
    by_cases hlt : j < 8
    · have hX := Dsk.Sectors.getD HD.out.wf.now (i := 8 * k + j) (by rw [HD.out.wf.len]; omega)
      have HRd := Lib.hid (show Calls Tryz.prog 64 #[.pointer (some ⟨bd, 0, none⟩), .int .i64 ((k : Int) * 8 + (j : Int))] wr (RetRead wr (d.now.getD (8 * k + j) [])) from by
        have := disk_read wr bd d F (HD.out.kept HK.out (fun _ _ f => f)) (8 * k + j) (by omega)
        rw [show ((8 * k + j : Nat) : Int) = (k : Int) * 8 + (j : Int) from by omega] at this
        exact this)
      have HX := Lib.hid hX
      clear hX c7 f7
      go_wp2_with fail
      refine HRd.out.mono ?_
      rintro e w2 ⟨b2, c2, rfl, ho2, hk2⟩
      rw [HX.out.1] at ho2 ⊢
      have HO1 := Lib.hid (HO.out.kept hk2 (fun _ _ f => f))
      have HO2 := Lib.hid ho2
      have HK2 := Lib.hid (HK.out.then hk2)
      have hfl : (Wal.flat d.now (8 * k) j).length = 64 * j := Wal.flat_length HD.out.wf.now j (by rw [HD.out.wf.len]; omega)
      have HFl := Lib.hid hfl
      clear ho2 hk2 HRd hfl c0
      go_wp2_with (at_builtin; refine wpList_append_pg rfl _ _ 50 rfl tBytes (.slice ob (64 * j) oc) (.slice b2 64 c2) (Wal.flat d.now (8 * k) j) (d.now.getD (8 * k + j) []) _ _ rfl rfl HO1.out HO2.out.reads (fun u hu => (HX.out.2 u hu).one) (by rw [HX.out.1, HFl.out]; omega) ?_; intro b4 c4 w4 ho4 hk4 _; rw [HX.out.1, HFl.out] at ho4 ⊢; have HO4 := Lib.hid ho4; have HK4 := Lib.hid hk4; clear ho4 hk4)
      have HN : Hid (PReadRel w d.now (8 * k) (j + 1) (.slice b4 (64 * j + 64) c4) w4) := by
        refine Lib.hid ⟨b4, c4, by rw [Nat.mul_succ], ?_, HK2.out.from (Nat.le_refl _) (HK4.out.mono fun x _ hx => HO.out.2 x hx)⟩
        have := HO4.out.mono (G := From w.heap.size) (fun x _ hx => by
          rcases hx with hx | hx
          · exact HO.out.2 x hx
          · have := HK2.out.size; show _ ≤ _; omega)
        rw [Wal.flat]
        exact this
      go_roundw
      case rel => exact ⟨j + 1, by omega, by go_num, HN.out⟩
      case measure => simp [intOf]; omega
    · have hj8 : j = 8 := by omega
      subst hj8
      have hxs := HO.out.reads
      rw [HZ.out] at hxs
      have hbel := HPr.out.lt
      have HXs := Lib.hid fun (W : World) (q : Kept (Just b) wr W) => hxs.kept q (fun x hx hj => by have hx : w.heap.size ≤ x := hx; have hj : x = b := hj; have := HP.out.lt; omega)
      have hC := fun W (q : Kept (Just b) wr W) => pcontains_nz W _ ys _ (HXs.out W q) (by rw [HLn.out]; omega)
      rw [hnn.out] at hC
      have HC := Lib.hid hC
      have HPa := Lib.hid fun (W : World) (q : Kept (Just b) wr W) => slots_Parse W _ ys _ (HXs.out W q) HLn.out HIb.out p HPo.out
      clear hxs hC hlt hj
      have heq : (p.id == (k : Int)) = true := by rw [HId.out]; exact beq_self_eq_true _
      go_wp2_with (first
        | (go_at_call 65; (with_reducible refine (HC.out _ (kept1 wr b 7 _)).mono ?_); rintro e w' ⟨rfl, rfl⟩)
        | (go_at_call 68; (with_reducible refine (HPa.out _ (kept1 wr b 7 _)).mono ?_); rintro e w6 ⟨pg, rfl, hpg6, hp6, hk6⟩; have HPg := Lib.hid hpg6; have HPa6 := Lib.hid hp6; have HK6 := Lib.hid hk6; have HIt := Lib.hid fun (W : World) (q : Kept Nob w6 W) => page_id W pg p.kind p.id _ ((q.block pg hp6.lt (fun f => f)).trans hp6.choose_spec.1); clear hpg6 hp6 hk6)
        | (go_at_call 30; (with_reducible refine (HIt.out _ (Kept.refl _ _)).mono ?_); rintro e w7 ⟨rfl, rfl⟩))
      go_ret2
      have k7 := kept1 wr b 7 (.int .i64 ((P.reads : Int) + 1))
      have hs := HK.out.size
      have kw : Kept (Just b) w (wr.setCell ⟨b, 7, none⟩ (.int .i64 ((P.reads : Int) + 1))) := HK.out.nob.trans' k7
      have hnew := HPr.out.turn (P' := { P with reads := P.reads + 1 }) k7 rfl (heap_set wr b 7 _ _ (.int .i64 ((P.reads : Int) + 1)) HPr.out.head)
      have hsz := kw.size
      have hg := HPg.out
      exact ⟨pg, rfl, Nat.le_trans hsz hg, HPa6.out.mono (fun x _ hx => ⟨Nat.le_trans hsz hx.1, hx.2⟩) (fun hx => hx.2 rfl), hnew.nob HK6.out, kw.then HK6.out⟩
set_option maxRecDepth 100000 in
set_option maxHeartbeats 8000000 in
theorem pool_evict_dirty (w : World) (b bd mb : Nat) (P : Pl) (S : Nat → Prop) (h : PoolAt w b bd mb P S) (hk : P.Keyed) (hl : P.room ≤ P.all.length) (hr : P.all.length ≤ 100) (hu : ∀ p ∈ P.all, p.2.used ≤ 1000000000000) (xk : Int) (x : Hd) (hcl : bestOf P P.all = some (xk, x)) (hdy : x.dirty = true)
    (d1 : Dsk) (F : Nat → Prop) (hUF : Under F w.heap.size) (hFb : ¬ F b) (hFm : ¬ F mb) (hFS : Disj F S) (hops : d1.ops < 9223372036854775807) (hgo : d1.goes = true) (hwr : P.wrote ≤ 1000000000000)
    (hWr : ∀ W, Kept Nob w W → Calls Tryz.prog 42 #[.pointer (some ⟨b, 0, none⟩), .int .i64 xk] W (RetWrite W bd d1 F)) :
    Calls Tryz.prog 35 #[.pointer (some ⟨b, 0, none⟩)] w fun e w' =>
      e = .returned .nilIface ∧ PoolAt w' b bd mb { P with wrote := P.wrote + 1, all := P.all.filter fun p => !(p.1 == xk) } S ∧ (∃ F', DiskAt w' bd d1.sync.1 F' ∧ Grows F w.heap.size F') ∧ Kept (fun q => F q ∨ q = b ∨ q = mb) w w' := by
  have hbw := h.lt
  have hmw : mb < w.heap.size := h.map.lt
  have HUS := Lib.hid h.under
  have HBm := Lib.hid h.bm
  have HWr := Lib.hid hWr
  have HUF := Lib.hid hUF
  have HFS := Lib.hid hFS
  have HDy := Lib.hid hdy
  clear hWr hUF hFS hdy
  have c2 : w.cell? ⟨b, 2, none⟩ = some (.int .i64 P.room) := cell_at h.head 2 _ rfl
  have c5 : w.cell? ⟨b, 5, none⟩ = some (.map (some mb)) := cell_at h.head 5 _ rfl
  have hln := fun n => (h.nob (Kept.drewN Nob w n)).len 3
  have ht : ¬ (P.all.length : Int) < (P.room : Int) := by omega
  have HP := Lib.hid h
  have HH := Lib.hid (fun n => pool_held (w.drewN n) b bd mb P S (h.nob (Kept.drewN Nob w n)) (by omega))
  have HKy := Lib.hid hk
  have HU := Lib.hid hu
  have HCl := Lib.hid hcl
  clear h hk hu hcl
  go_enter Tryz.func35, Tryz.ntmps35
  go_wp2_with fail
  go_quiet (fail)
  clear hln
  go_wp2_with fail
  refine (HH.out nq).mono ?_
  rintro e w2 ⟨a2, k2, rfl, ho2, hk2⟩
  have HO2 := Lib.hid ho2.reads
  have HK2 := Lib.hid ((Kept.drewN Nob w nq).trans' hk2)
  clear ho2 hk2 HH c2 c5
  go_wp2_with fail
  have HR0 : Hid (Kept Nob w2 w2) := Kept.refl _ _
  go_loopw [3, 21] (fun bv i wr => ∃ j : Nat, j ≤ P.all.length ∧ i = .int .i64 j ∧ bv = .int .i64 (keyOr (bestOf P (P.all.take j))) ∧ Kept Nob w2 wr) (fun _ i _ => P.all.length - (intOf i).toNat)
  case atStart => exact ⟨0, Nat.zero_le _, rfl, rfl, HR0.out⟩
  case round =>
    clear HR0
    obtain ⟨j, hj, rfl, rfl, hkw⟩ := hrel
    have HK := Lib.hid hkw
    have hPr := HP.out.nob (HK2.out.then hkw)
    have c5 : wr.cell? ⟨b, 5, none⟩ = some (.map (some mb)) := cell_at hPr.head 5 _ rfl
    have HPr := Lib.hid hPr
    clear hPr hkw
    by_cases hlt : j < P.all.length
    · have hmem := List.getElem_mem hlt
      have hbt := bestOf_take P P.all j hlt
      obtain ⟨gb, go, xv, rfl, hx, hc, -⟩ := (HO2.out.kept HK.out (fun _ _ f => f)).cell (i := j) (by simpa [Pl.keys] using hlt)
      obtain rfl : xv = .int .i64 P.all[j].1 := by
        rw [Pl.keys, List.getElem?_map, List.getElem?_eq_getElem hlt] at hx
        exact (Option.some.inj hx).symm
      clear hx
      have HBt := Lib.hid hbt
      obtain ⟨key, x, he⟩ : ∃ key x, P.all[j] = (key, x) := ⟨_, _, rfl⟩
      rw [he] at hmem HBt hc
      clear hbt he
      have hlk := HPr.out.look HKy.out hmem
      have hb := (HPr.out.held _ hmem).2
      have d4 : wr.cell? ⟨x.g, 4, none⟩ = some (.int .i64 x.used) := cell_at hb 4 _ rfl
      have HMy := Lib.hid (fun n => pool_may (wr.drewN n) b bd mb P S (HPr.out.nob (Kept.drewN Nob wr n)) key x hmem)
      clear hb
      go_upto_region 8 with fail
      cases hm : P.may x
      · rw [hm] at HMy
        have HB2 : Hid (Value.int .i64 (keyOr (bestOf P (P.all.take j))) = .int .i64 (keyOr (bestOf P (P.all.take (j + 1))))) := by
          refine Lib.hid ?_
          rw [HBt.out, better_no hm]
        clear hm
        generalize keyOr (bestOf P (P.all.take j)) = q at *
        go_quiet ((go_at_call 63; exact Calls.quiet_of (HMy.out _)))
        go_wp2_with fail
        have HN := Lib.hid (HK.out.then (Kept.drewN Nob wr nq))
        go_roundw
        case rel => exact ⟨j + 1, by omega, by go_num, HB2.out, HN.out⟩
        case measure => simp [intOf]; omega
      · rw [hm] at HMy
        cases hacc : bestOf P (P.all.take j) with
        | none =>
          have HB2 : Hid (Value.int .i64 key = .int .i64 (keyOr (bestOf P (P.all.take (j + 1))))) := by
            refine Lib.hid ?_
            rw [HBt.out, hacc, better_none hm]; rfl
          rw [show keyOr none = -1 from rfl]
          clear hm hacc
          go_quiet ((go_at_call 63; exact Calls.quiet_of (HMy.out _)))
          go_wp2_with fail
          have HN := Lib.hid (HK.out.then (Kept.drewN Nob wr nq))
          go_roundw
          case rel => exact ⟨j + 1, by omega, by go_num, HB2.out, HN.out⟩
          case measure => simp [intOf]; omega
        | some y =>
          obtain ⟨yk, y⟩ := y
          have hym : (yk, y) ∈ P.all := List.mem_of_mem_take (bestOf_mem P _ _ hacc).1
          have hly := fun n => (HPr.out.nob (Kept.drewN Nob wr n)).look HKy.out hym
          have hyb := (HPr.out.held _ hym).2
          have e4 : wr.cell? ⟨y.g, 4, none⟩ = some (.int .i64 y.used) := cell_at hyb 4 _ rfl
          have hy0 := (HKy.out _ hym).1
          have hn0 : decide (yk < 0) = false := by simpa using hy0
          rw [show keyOr (some (yk, y)) = yk from rfl]
          clear hyb hy0 hym
          by_cases hus : x.used < y.used
          · have HB2 : Hid (Value.int .i64 key = .int .i64 (keyOr (bestOf P (P.all.take (j + 1))))) := by
              refine Lib.hid ?_
              rw [HBt.out, hacc, better_some hm, if_pos hus]; rfl
            have hus' : decide ((x.used : Int) < (y.used : Int)) = true := by simpa using hus
            clear hm hacc
            go_quiet ((go_at_call 63; exact Calls.quiet_of (HMy.out _)))
            go_wp2_with fail
            have HN := Lib.hid (HK.out.then (Kept.drewN Nob wr nq))
            go_roundw
            case rel => exact ⟨j + 1, by omega, by go_num, HB2.out, HN.out⟩
            case measure => simp [intOf]; omega
          · have HB2 : Hid (Value.int .i64 yk = .int .i64 (keyOr (bestOf P (P.all.take (j + 1))))) := by
              refine Lib.hid ?_
              rw [HBt.out, hacc, better_some hm, if_neg hus]; rfl
            have hus' : decide ((x.used : Int) < (y.used : Int)) = false := by simpa using hus
            clear hm hacc
            go_quiet ((go_at_call 63; exact Calls.quiet_of (HMy.out _)))
            go_wp2_with fail
            have HN := Lib.hid (HK.out.then (Kept.drewN Nob wr nq))
            go_roundw
            case rel => exact ⟨j + 1, by omega, by go_num, HB2.out, HN.out⟩
            case measure => simp [intOf]; omega
    · have hjl : j = P.all.length := by omega
      subst hjl
      rw [List.take_of_length_le (Nat.le_refl _)]
      cases hb : bestOf P P.all with
      | none => rw [HCl.out] at hb; cases hb
      | some x' =>
        rw [HCl.out] at hb
        obtain rfl : (xk, x) = x' := Option.some.inj hb
        have hxm := (bestOf_mem P _ _ HCl.out).1
        have hxk := HKy.out _ hxm
        have hlk := HPr.out.look HKy.out hxm
        have d2 : wr.cell? ⟨x.g, 2, none⟩ = some (.bool x.dirty) := cell_at (HPr.out.held _ hxm).2 2 _ rfl
        rw [HDy.out] at d2
        have hn0 : ¬ xk < 0 := by have := hxk.1; simpa using this
        have HXk := Lib.hid hxk
        rw [show keyOr (some (xk, x)) = xk from rfl]
        have HKw := Lib.hid (HK2.out.then HK.out)
        have hbr : b < wr.heap.size := HPr.out.lt
        have hmr : mb < wr.heap.size := HPr.out.map.lt
        have HWw := Lib.hid (HWr.out wr HKw.out)
        clear hxk hb HWr
        go_wp2_with (first
          | (go_at_call 42; (with_reducible refine HWw.out.mono ?_); rintro e w3 ⟨rfl, F3, hd3, hg3, hk3⟩; have HP3 := Lib.hid (HPr.out.kept hk3 hFb hFm (fun q hq f => HFS.out q f hq)); have c03 : w3.cell? ⟨b, 0, none⟩ = some (.pointer (some ⟨bd, 0, none⟩)) := cell_at HP3.out.head 0 _ rfl; have HG3 := Lib.hid hg3; have HK3 := Lib.hid hk3; have HSy := Lib.hid (disk_sync w3 bd d1 F3 hd3 hops hgo); clear hd3 hg3 hk3)
          | (go_at_call 43; (with_reducible refine HSy.out.mono ?_); rintro e w4 ⟨rfl, F4, hd4, hg4, hk4⟩; have HD4 := Lib.hid hd4; have HG4 := Lib.hid hg4; have HK4 := Lib.hid hk4; have HFn : Hid (∀ q, q < wr.heap.size → F3 q → F q) := (Lib.hid fun q hq f => (HG3.out q f).elim id fun e => absurd e (by omega)); have HP4 := Lib.hid (HP3.out.kept hk4 (fun f => hFb (HFn.out b hbr f)) (fun f => hFm (HFn.out mb hmr f)) (fun q hq f => HFS.out q (HFn.out q (HPr.out.under q hq) f) hq)); have c84 : w4.cell? ⟨b, 8, none⟩ = some (.int .i64 P.wrote) := cell_at HP4.out.head 8 _ rfl; have f84 : w4.frozen? ⟨b, 8, none⟩ = false := frozen_at HP4.out.head 8; have c54 : w4.cell? ⟨b, 5, none⟩ = some (.map (some mb)) := cell_at HP4.out.head 5 _ rfl; have HP5 := Lib.hid (HP4.out.turn (P' := { P with wrote := P.wrote + 1 }) (kept1 w4 b 8 (.int .i64 ((P.wrote : Int) + 1))) rfl (heap_set w4 b 8 _ _ (.int .i64 ((P.wrote : Int) + 1)) HP4.out.head)); obtain ⟨w', hdel, hmap, hkm⟩ := HP5.out.map.drop Tryz.underlying74 xk (by simp only [Lit.wf, Bool.and_eq_true, decide_eq_true_eq]; exact ⟨by show -9223372036854775808 ≤ xk; have q1 : 0 ≤ xk := HXk.out.1; omega, by show xk ≤ 9223372036854775807; have q2 : xk ≤ 1000000 := HXk.out.2; omega⟩) 0; have HM := Lib.hid hmap; have HKm := Lib.hid hkm; clear hd4 hg4 hk4 hmap hkm))
        go_ret
        have k5 := kept1 w4 b 8 (.int .i64 ((P.wrote : Int) + 1))
        have s1 := HKw.out.size
        have s2 := HK3.out.size
        have s3 := HK4.out.size
        have hF4 : ∀ q, q < wr.heap.size → F4 q → F q := fun q hq f => by
          rcases HG4.out q f with e | e
          · exact HFn.out q hq e
          · omega
        have hF4b : ¬ F4 b := fun f => hFb (hF4 b hbr f)
        have hF4m : ¬ F4 mb := fun f => hFm (hF4 mb hmr f)
        refine ⟨rfl, HP5.out.dropped HM.out HKm.out, ⟨F4, (HD4.out.kept k5 (fun q f e => hF4b (by rw [show q = b from e] at f; exact f))).kept HKm.out (fun q f e => hF4m (by rw [show q = mb from e] at f; exact f)), fun q f => ?_⟩, ?_⟩
        · by_cases hq : q < wr.heap.size
          · exact .inl (hF4 q hq f)
          · exact .inr (by omega)
        · have a1 : Kept (fun q => F q ∨ q = b ∨ q = mb) w w3 := HKw.out.nob.trans (HK3.out) fun q _ f => .inl f
          have a2 : Kept (fun q => F q ∨ q = b ∨ q = mb) w w4 := a1.trans HK4.out fun q hq f => .inl (HFn.out q (by omega) f)
          have a3 := a2.trans k5 fun q _ e => .inr (.inl e)
          exact a3.trans HKm.out fun q _ e => .inr (.inr e)
theorem InB.set {ys : List Int} (h : InB ys) (o : Nat) {x : Int} (hx : 0 ≤ x ∧ x < 256) : InB (ys.set o x) := fun y hy => by
  rcases List.mem_or_eq_of_mem_set hy with e | e
  · exact h y e
  · rw [e]; exact hx
theorem InB.put2 {ys : List Int} (h : InB ys) (o : Nat) (n : Int) : InB (Proofs.YthppgchmamonnaaGreatDoor.put2 ys o n) :=
  (h.set o (by omega)).set (o + 1) (by omega)
theorem InB.put4 {ys : List Int} (h : InB ys) (o : Nat) (n : Int) : InB (Proofs.YthppgchmamonnaaGreatDoor.put4 ys o n) := (h.put2 o n).put2 (o + 2) _
theorem InB.layB {ys bs : List Int} (h : InB ys) (hb : InB bs) (o : Nat) : InB (Proofs.YthppgchmamonnaaGreatDoor.layB ys o bs) := fun y hy => by
  rcases List.mem_append.1 hy with e | e
  · exact h y (List.mem_of_mem_take e)
  · rcases List.mem_append.1 e with e | e
    · exact hb y e
    · exact h y (List.mem_of_mem_drop e)
theorem bytesOf_inB (p : PgM) (hb : ∀ b, some b ∈ p.ss → InB b) : InB (bytesOf p) := by
  have hh : InB (headRow p) := InB.put4 ((InB.set (InB.set (fun y hy => by rw [(List.mem_replicate.1 hy).2]; omega) 0 (by omega)) 1 (by omega))) 2 _
  have hu : ∀ j, InB (bytesUpTo p j).1 := by
    intro j
    induction j with
    | zero => exact hh
    | succ j ih =>
      rw [bytesUpTo]
      cases hs : p.ss.getD j none with
      | none => exact ih
      | some b =>
        have hm : some b ∈ p.ss := by
          rw [List.getD_eq_getElem?_getD] at hs
          cases hq : p.ss[j]? with
          | none => rw [hq] at hs; cases hs
          | some t => rw [hq] at hs; exact hs ▸ List.mem_of_getElem? hq
        exact ((ih.layB (hb b hm) _).put2 _ _).put2 _ _
  exact (hu _).put4 _ _
end Go.Proofs.YthppgchmamonnaaGreatDoor
