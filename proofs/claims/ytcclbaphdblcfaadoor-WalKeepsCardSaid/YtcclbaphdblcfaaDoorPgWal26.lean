/- Law: WalKeeps. -/
import Derived.Test.YtcclbaphdblcfaaDoorPgWal25
namespace Go.Proofs.YtcclbaphdblcfaaDoor
open Go.RowKit

/-- inside WalKeeps: k rows are turned, and the others are as they were -/
def KeepRel (w4 : World) (G : Nat → Prop) (v : Value) (us : List Value) (rs : List (List Value)) (k : Nat) (wr : World) : Prop :=
  Kept G w4 wr ∧ Own wr 47 v us G ∧ ∀ (j : Nat) (y : Value) (x : List Value), k ≤ j → us[j]? = some y → rs[j]? = some x → Own wr 5 y x G

set_option maxRecDepth 100000 in
set_option maxHeartbeats 4000000 in
theorem keeps_any (w : World) (n size : Int) (hT : Typed w) :
    Calls Tryd.prog 8 #[.int .i64 n, .int .i64 size] w (RetTrue w) := by
  by_cases g0 : n < 1
  · go_enter Tryd.func8, Tryd.ntmps8
    go_wp2_with (go_at_call 10; refine (awake13 _).mono ?_; rintro e w' ⟨rfl, hk⟩)
    go_ret
    exact ⟨rfl, hk⟩
  by_cases g1 : 10 < n
  · go_enter Tryd.func8, Tryd.ntmps8
    go_wp2_with (go_at_call 10; refine (awake13 _).mono ?_; rintro e w' ⟨rfl, hk⟩)
    go_ret
    exact ⟨rfl, hk⟩
  by_cases g2 : size < 1
  · go_enter Tryd.func8, Tryd.ntmps8
    go_wp2_with (go_at_call 10; refine (awake13 _).mono ?_; rintro e w' ⟨rfl, hk⟩)
    go_ret
    exact ⟨rfl, hk⟩
  by_cases g3 : 100 < size
  · go_enter Tryd.func8, Tryd.ntmps8
    go_wp2_with (go_at_call 10; refine (awake13 _).mono ?_; rintro e w' ⟨rfl, hk⟩)
    go_ret
    exact ⟨rfl, hk⟩
  obtain ⟨n, rfl⟩ : ∃ a : Nat, n = a := ⟨n.toNat, by omega⟩
  obtain ⟨size, rfl⟩ : ∃ a : Nat, size = a := ⟨size.toNat, by omega⟩
  have hn1 : 1 ≤ n := by omega
  have hn2 : n ≤ 10 := by omega
  have hs1 : 1 ≤ size := by omega
  have hs2 : size ≤ 100 := by omega
  have HT := Lib.hid hT
  clear hT
  go_enter Tryd.func8, Tryd.ntmps8
  go_wp2_with fail
  refine (disk_new w 100 (by omega) (by omega)).mono ?_
  rintro e w1 ⟨bd, rfl, hD1, hk1⟩
  have HOp := Lib.hid (show Calls Tryd.prog 12 #[.pointer (some ⟨bd, 0, none⟩), .int .i64 0, .int .i64 100] w1 _ from log_open0 w1 bd (Dsk.fresh 100) _ hD1 (Wal.Live.fresh 100) (by decide) 100 (by omega) (by decide) _ (fresh_on 100 0 100 (by omega) (by omega)) rfl rfl)
  have HK1 := Lib.hid hk1
  clear hD1 hk1
  go_wp2_with fail
  refine HOp.out.mono ?_
  rintro e w2 hop
  obtain ⟨b, F2, R2, rfl, hU2, -, -, -⟩ := Up.opened (w0 := w) (N := 0) (Wal.Live.fresh 100) (fresh_on 100 0 100 (by omega) (by omega)) (by decide) HK1.out (fun x hx => hx.1) hop
  rw [show ((100 - 0 - 1) / 2 : Nat) = 49 from rfl] at hU2
  have hl2 : (Dsk.fresh 100).sync.1.now.length = 100 := by rw [(Wal.sync_now (Wal.Live.fresh 100)).1]; simp [Dsk.fresh]
  generalize (Dsk.fresh 100).sync.1 = d2 at hU2 hl2
  have HL2 := Lib.hid hl2
  clear hl2
  have HU2 := Lib.hid hU2
  clear hop hU2 HOp
  have HRc := Lib.hid (show Calls Tryd.prog 14 #[.int .i64 0, .int .i64 n, .int .i64 size] w2 _ from recs_any w2 0 n size (by omega) (by omega) (by omega))
  go_wp2_with fail
  refine HRc.out.mono ?_
  rintro e w3 ⟨vb, vc, rfl, ho3, hk3⟩
  have hRl := recRows_length 0 n size
  have hRs := recRows_rec 0 n size (by omega)
  have hRg : ∀ k, k < n → (recRows 0 n size)[k]? = some (blockRow size ((0 : Int) + (k : Int))) := fun k hk => by simp [recRows, hk]
  obtain ⟨rs, hrs⟩ : ∃ rs, rs = recRows 0 n size := ⟨_, rfl⟩
  rw [← hrs] at ho3 hRl hRs hRg
  have HRq := Lib.hid hrs
  clear hrs
  have HRl := Lib.hid hRl
  have HRs := Lib.hid hRs
  have HRg := Lib.hid hRg
  obtain ⟨us, hv3, hr3⟩ := ho3
  have hU3 := HU2.out.nob hk3
  have hmay : (Wal.Lg.none 0 49).may rs = true := by
    have h1 := Wal.weight_le 100 rs fun r hr => by rw [(hRs r hr).2]; exact hs2
    have h2 : rs.length * (100 + 2) ≤ 10 * 102 := Nat.mul_le_mul (by rw [hRl]; exact hn2) (Nat.le_refl _)
    simp only [Wal.Lg.may, Wal.Lg.behind, Bool.or_eq_true, decide_eq_true_eq]
    left
    show 0 + Wal.weight rs ≤ 49 * 64
    omega
  have HAp := Lib.hid (hU3.append (by omega) hv3.reads hr3.read (fun r hr => (hRs r hr).1) (by omega) (by omega) (by simp [Wal.Lg.none]; omega) hmay)
  have hsz3 := hk3.size
  have HV3 := Lib.hid hv3
  have HR3 := Lib.hid hr3
  have HUn := Lib.hid hU3.disk.under
  have HUr := Lib.hid hU3.log.under
  have HUb := Lib.hid hU3.log.lt
  have HF2 := Lib.hid HU2.out.disk.under
  have HR2 := Lib.hid HU2.out.log.under
  have HB2 := Lib.hid HU2.out.log.lt
  clear hRl hRs hRg hmay hU3 hv3 hr3 HRc hk3
  go_wp2_with fail
  refine HAp.out.mono ?_
  rintro e w4 ⟨rfl, d, F, R, hU4, hk4, hgF, hgR, hst⟩
  have HL4 := Lib.hid (hst.len.trans HL2.out)
  clear hst
  have hTl := (Tells.none 0 49).grow rs
  rw [List.nil_append] at hTl
  have hfr : ((Wal.Lg.none 0 49).grow rs).frm = 0 := Wal.grow_frm _ _
  have hha : ((Wal.Lg.none 0 49).grow rs).half = 49 := Wal.grow_half _ _
  rw [show (((Wal.Lg.none 0 49).first + (Wal.Lg.none 0 49).recs.length : Nat) : Int) = 0 from rfl]
  generalize (Wal.Lg.none 0 49).grow rs = L at hU4 hTl hfr hha
  obtain ⟨G, hG⟩ : ∃ G : Nat → Prop, G = (fun x => w2.heap.size ≤ x ∧ x < w3.heap.size) := ⟨_, rfl⟩
  have hGin : ∀ x, x < w3.heap.size → From w2.heap.size x → G x := fun x hx q => by rw [hG]; exact ⟨q, hx⟩
  have hGP : ∀ x, G x → ¬ Por F2 (Just b) x := fun x q hj => by
    rw [hG] at q
    rcases hj with hj | hj
    · have := HF2.out x hj; omega
    · have := HB2.out; have hj : x = b := hj; omega
  have hGF : ∀ x, F x → ¬ G x := fun x f q => by
    rw [hG] at q
    rcases hgF x f with f | f
    · have := HF2.out x f; omega
    · omega
  have hGR : ∀ x, R x → ¬ G x := fun x f q => by
    rw [hG] at q
    rcases hgR x f with f | f
    · have := HR2.out x f; omega
    · omega
  have hGb : ¬ G b := fun q => by rw [hG] at q; have := HB2.out; omega
  have hG0 : ∀ x, x < w.heap.size → ¬ G x := fun x hx q => by rw [hG] at q; have := HU2.out.kept.size; omega
  have hv4 := (HV3.out.mono hGin).kept hk4 hGP
  have hr4 := (HR3.out.mono hGin).kept hk4 hGP
  obtain ⟨gv, rfl⟩ : ∃ gv, vb = some ⟨gv, 0, none⟩ := by
    rcases hv4.shape with ⟨hx, hz⟩ | ⟨g, c', cur, hx, _⟩
    · have h1 := hr4.len
      rw [hz, HRl.out] at h1
      simp at h1; omega
    · simp at hx; exact ⟨g, hx.1⟩
  have HU4 := Lib.hid hU4
  have HTl := Lib.hid hTl
  have HFr := Lib.hid hfr
  have HHa := Lib.hid hha
  have HGF := Lib.hid hGF
  have HGR := Lib.hid hGR
  have HGb := Lib.hid hGb
  have HG0 := Lib.hid hG0
  have HAr := Lib.hid hr4.apart
  have HUl := Lib.hid (hr4.len.trans HRl.out)
  have HR0 : Hid (KeepRel w4 G (.slice (some ⟨gv, 0, none⟩) n vc) us rs 0 w4) := Lib.hid ⟨Kept.refl _ _, hv4, fun j y x _ h1 h2 => hr4.own j y x h1 h2⟩
  clear hU4 hk4 hgF hgR hTl hfr hha hGin hGP hGF hGR hGb hG0 hv4 hr4 HV3 HR3 HUn HUr HUb HF2 HR2 HB2 HAp hG hsz3
  go_wp2_with fail
  go_loopw [12] (fun i wr => ∃ k : Nat, k ≤ n ∧ i = .int .i64 k ∧ KeepRel w4 G (.slice (some ⟨gv, 0, none⟩) n vc) us rs k wr) (fun i _ => n - (intOf i).toNat)
  case atStart => exact ⟨0, Nat.zero_le _, rfl, HR0.out⟩
  case round =>
    clear HR0
    obtain ⟨k, hk, rfl, hkr, hvr, hrr⟩ := hrel
    by_cases hlt : k < n
    · have hku : k < us.length := by rw [HUl.out]; exact hlt
      have hkrs : k < rs.length := by rw [HRl.out]; exact hlt
      have hcell := hvr.cell k us[k] (List.getElem?_eq_getElem hku)
      have hrow := hrr k us[k] rs[k] (Nat.le_refl _) (List.getElem?_eq_getElem hku) (List.getElem?_eq_getElem hkrs)
      obtain ⟨gk, ck, hgk⟩ : ∃ gk ck, us[k] = .slice (some ⟨gk, 0, none⟩) size ck := by
        have hl := (HRs.out rs[k] (List.getElem_mem hkrs)).2
        rcases hrow.shape with ⟨hx, hz⟩ | ⟨g, c', cur, hx, _⟩
        · rw [hz] at hl; simp at hl; omega
        · rw [hl] at hx; exact ⟨g, c', hx⟩
      have hGk := hrow.2 gk (by rw [hgk]; simp [Value.ownBlock])
      have hne : ∀ j y, k < j → us[j]? = some y → y.ownBlock ≠ some gk := fun j y hj hy hb => by
        have := HAr.out k j us[k] y gk (List.getElem?_eq_getElem hku) hy (by rw [hgk]; simp [Value.ownBlock]) hb
        omega
      have hno : (Value.slice (some ⟨gv, 0, none⟩) n vc).ownBlock ≠ some gk := fun hb => by
        obtain ⟨c1, e1⟩ := hvr.blockIs hb
        obtain ⟨c2, e2⟩ := hrow.blockIs (g := gk) (by rw [hgk]; simp [Value.ownBlock])
        rw [e1] at e2
        simp at e2
      rw [hgk] at hcell hrow
      have hrk : rs[k] = blockRow size ((0 : Int) + (k : Int)) := by
        have := HRg.out k hlt
        rw [List.getElem?_eq_getElem hkrs] at this
        exact Option.some.inj this
      have hb0 : rs[k][0]? = some (.int .u8 (blkN ((0 : Int) + (k : Int)) 0)) := by
        rw [hrk, blockRow, List.getElem?_map, List.getElem?_range hs1]; rfl
      have d0 : wr.cell? ⟨gk, 0, none⟩ = some (.int .u8 (blkN ((0 : Int) + (k : Int)) 0)) := hrow.cell 0 _ hb0
      have f0 : wr.frozen? ⟨gk, 0, none⟩ = false := hrow.frozen 0
      have hur := HU4.out.rest hkr HGb.out HGF.out HGR.out HG0.out
      have hgb : gk < wr.heap.size := cell_lt d0
      have hGet : ∀ W, Kept (Just gk) wr W → Calls Tryd.prog 23 #[.pointer (some ⟨b, 0, none⟩), .int .i64 k] W (RetRead W rs[k]) := fun W q => by
        have h1 := hur.log.kept q (fun h => by have h : b = gk := h; rw [← h] at hGk; exact HGb.out hGk) (fun x hx h => by have h : x = gk := h; rw [h] at hx; exact HGR.out gk hx hGk)
        have h2 := log_get W b bd L R h1 hur.on.fits.small (fun r hr => by rw [HTl.out.recs, List.drop_zero] at hr; exact (HRs.out r hr).1) k (by rw [HTl.out.frst]; omega) (by rw [HTl.out.length, HRl.out]; exact hlt)
        rw [HTl.out.get (by omega) hkrs] at h2
        exact h2
      have hrkl := (HRs.out rs[k] (List.getElem_mem hkrs)).2
      have HGet := Lib.hid hGet
      have HKs := Lib.hid hkr.size
      have HVb := Lib.hid (fun g q => hvr.blockLt (g := g) q)
      have HRb := Lib.hid (fun j y x hj h1 h2 g q => (hrr j y x hj h1 h2).blockLt (g := g) q)
      have HKr := Lib.hid hkr
      have HVr := Lib.hid hvr
      have HRr := Lib.hid hrr
      have HNe := Lib.hid hne
      have HNo := Lib.hid hno
      have HGk := Lib.hid hGk
      have HRk := Lib.hid hrk
      have HRkl := Lib.hid hrkl
      have HRkb := Lib.hid (HRs.out rs[k] (List.getElem_mem hkrs)).1.2
      clear hGet hkr hvr hrr hne hno hGk hrow hrk hb0 hur hku hrkl hgk
      generalize rs[k] = row at *
      go_wp2_with fail
      refine (HGet.out _ (kept1 wr gk 0 _)).mono ?_
      rintro e w5 ⟨b5, c5, rfl, ho5, hk5⟩
      rw [HRkl.out] at ho5 ⊢
      obtain ⟨g5, rfl⟩ : ∃ g5, b5 = some ⟨g5, 0, none⟩ := by
        rcases ho5.shape with ⟨hx, hz⟩ | ⟨g, c', cur, hx, _⟩
        · have h1 := HRkl.out
          rw [hz] at h1
          simp at h1; omega
        · simp at hx; exact ⟨g, hx.1⟩
      have hg5 : wr.heap.size ≤ g5 := by
        have := ho5.2 g5 (by simp [Value.ownBlock]; try omega)
        simpa [From] using this
      have HG5 := Lib.hid hg5
      have HK5 : Hid (Kept G w4 w5) := Lib.hid ((HKr.out.trans' ((kept1 wr gk 0 _).mono fun x _ h => by have h : x = gk := h; rw [h]; exact HGk.out)).then hk5)
      have HV5 : Hid (Own w5 47 (.slice (some ⟨gv, 0, none⟩) n vc) us G) := Lib.hid ((HVr.out.keptT (kept1 wr gk 0 _) (fun x h => by have h : x = gk := h; rw [h]; exact HNo.out)).kept hk5 (fun _ _ f => f))
      have HR5 : Hid (∀ (j : Nat) (y : Value) (x : List Value), k + 1 ≤ j → us[j]? = some y → rs[j]? = some x → Own w5 5 y x G) := Lib.hid fun j y x hj h1 h2 => ((HRr.out j y x (by omega) h1 h2).keptT (kept1 wr gk 0 _) (fun z h => by have h : z = gk := h; rw [h]; exact HNe.out j y (by omega) h1)).kept hk5 (fun _ _ f => f)
      have HO5 := Lib.hid ho5
      have hw5 : wr.heap.size ≤ w5.heap.size := by have := hk5.size; simpa using this
      have HBl := Lib.hid (block_any w5 size (by omega) (k : Int))
      clear ho5 hk5 hg5 HGet d0 f0 hcell HNe HNo HKr HVr HRr
      go_wp2_with fail
      refine HBl.out.mono ?_
      rintro e w6 ⟨g6, rfl, ho6, hk6⟩
      have hrow : row = blockRow size (k : Int) := by rw [HRk.out, Int.zero_add]
      have HBy := Lib.hid (bytes_rows w6 _ _ row (blockRow size (k : Int)) _ _ (HO5.out.kept hk6 (fun _ _ f => f)).reads ho6.reads HRkb.out (blockRow_bytes _ _) (by have := HRkl.out; omega) (by rw [blockRow_length]; omega))
      have HRw := Lib.hid hrow
      have hb0 : row[0]? = some (.int .u8 (blkN (k : Int) 0)) := by
        rw [hrow, blockRow, List.getElem?_map, List.getElem?_range hs1]; rfl
      have d5 : w6.cell? ⟨g5, 0, none⟩ = some (.int .u8 (blkN (k : Int) 0)) := (HO5.out.kept hk6 (fun _ _ f => f)).cell 0 _ hb0
      have f5 : w6.frozen? ⟨g5, 0, none⟩ = false := (HO5.out.kept hk6 (fun _ _ f => f)).frozen 0
      have HK6 := Lib.hid hk6
      clear ho6 hk6 hrow hb0 HBl
      go_wp2_with (go_at_call 22; refine HBy.out.mono ?_; rintro e w7 ⟨r7, n7, rfl, hr7, rfl⟩; obtain rfl : r7 = true := hr7.2 HRw.out; clear hr7)
      have hnew : ∀ u : Value, KeepRel w4 G (.slice (some ⟨gv, 0, none⟩) n vc) us rs (k + 1) ((w6.drewN n7).setCell ⟨g5, 0, none⟩ u) := fun u => by
        have kk := HK6.out.then (Kept.drewN Nob w6 n7)
        have kS := kept1 (w6.drewN n7) g5 0 u
        have hs6 := kk.size
        have kall : Kept G w4 ((w6.drewN n7).setCell ⟨g5, 0, none⟩ u) := (HK5.out.then kk).from (n := wr.heap.size) HKs.out (kS.mono fun x _ h => by have h : x = g5 := h; rw [h]; exact HG5.out)
        refine ⟨kall, (HV5.out.kept kk (fun _ _ f => f)).keptT kS (fun x h => ?_), fun j y x hj h1 h2 => ((HR5.out j y x hj h1 h2).kept kk (fun _ _ f => f)).keptT kS (fun z h => ?_)⟩
        · have h : x = g5 := h
          rw [h]
          exact fun hb => by have := HVb.out g5 hb; have := HG5.out; omega
        · have h : z = g5 := h
          rw [h]
          exact fun hb => by have := HRb.out j y x (by omega) h1 h2 g5 hb; have := HG5.out; omega
      have HNew := Lib.hid hnew
      clear hnew
      go_roundw
      case rel => exact ⟨k + 1, by omega, by go_num, HNew.out _⟩
      case measure => simp [intOf]; omega
    · have hur := HU4.out.rest hkr HGb.out HGF.out HGR.out HG0.out
      have HUr := Lib.hid hur
      have HRc := Lib.hid (show Calls Tryd.prog 14 #[.int .i64 0, .int .i64 n, .int .i64 size] wr _ from recs_any wr 0 n size (by omega) (by omega) (by omega))
      clear hkr hvr hrr hur
      go_wp2_with fail
      refine HRc.out.mono ?_
      rintro e w5 ⟨vb2, vc2, rfl, ho5, hk5⟩
      rw [← HRq.out] at ho5
      have HX := Lib.hid (XAt.made ho5)
      have HU5 := Lib.hid (HUr.out.nob (hk5.then (Kept.alloc Nob w5 (.cells #[.int .i64 0, .slice vb2 n vc2] 36))))
      clear ho5 hk5 HRc
      go_wp2_with fail
      refine (disk_crash _ bd d F HU5.out.disk _ [] (fun _ => True) (.inl ⟨rfl, none, 0, rfl, fun _ => rfl⟩) (by simp) (-1)).mono ?_
      rintro e w6 ⟨bd2, rfl, hD6, hk6⟩
      obtain ⟨hon6, hops6, hlen6, -⟩ := crash_on HU5.out.disk.wf HU5.out.calm [] (-1) HU5.out.on
      have hg6 : (d.crash [] (-1)).good.length = 100 := by rw [← hD6.wf.len, hlen6]; exact HL4.out
      have hop := log_open0 w6 bd2 _ _ hD6 (Wal.Live.crash d [] (-1)) (by omega) 100 (by omega) (by omega) L hon6 HFr.out (by rw [HHa.out])
      have HOp := Lib.hid (show Calls Tryd.prog 12 #[.pointer (some ⟨bd2, 0, none⟩), .int .i64 0, .int .i64 100] w6 _ from hop)
      have HK6 := Lib.hid hk6
      have HD6 := Lib.hid hD6
      have HOn6 := Lib.hid hon6
      have HOps6 := Lib.hid hops6
      clear hD6 hk6 hon6 hops6 hlen6 hg6 hop
      go_wp2_with fail
      refine HOp.out.mono ?_
      rintro e w7 hop
      have hk06 := HU5.out.kept.then HK6.out
      obtain ⟨b7, F7, R7, rfl, hU7, hk7, -, -⟩ := Up.opened (w0 := w) (N := 0) (Wal.Live.crash d [] (-1)) HOn6.out (by have := HOps6.out; omega) hk06 (fun x hx => by have := hx.1; have := HU5.out.kept.size; omega) hop
      have hk57 := hk7.trans (Kept.refl Nob w7) (fun _ _ f => f.elim)
      have HX7 := Lib.hid ((HX.out.kept HK6.out (fun f => f) (fun _ _ f => f)).kept hk7 (fun q => by have := q.1; have := HX.out.lt; omega) (fun x hx q => by have := HX.out.under x hx; have := q.1; omega))
      have HLg7 := Lib.hid ((HU5.out.log.kept HK6.out (fun f => f) (fun _ _ f => f)).kept hk7 (fun q => by have := HU5.out.log.lt; have := q.1; omega) (fun x hx q => by have := HU5.out.log.under x hx; have := q.1; omega))
      have HU7 := Lib.hid hU7
      have hln : rs.length ≤ 1000000000 := by rw [HRl.out]; omega
      have HS1 := Lib.hid (same_log w7 _ 0 rs _ HX7.out b bd L R HLg7.out HTl.out hln (fun r hr => (HRs.out r hr).1) (HT.out.kept HU7.out.kept (fun f => f)))
      have HS2 := Lib.hid (fun W (q : Kept Nob w7 W) => same_log W _ 0 rs _ (HX7.out.kept q (fun f => f) (fun _ _ f => f)) b7 bd2 L R7 (HU7.out.log.kept q (fun f => f) (fun _ _ f => f)) HTl.out hln (fun r hr => (HRs.out r hr).1) (HT.out.kept (HU7.out.kept.then q) (fun f => f)))
      clear hop hk06 hU7 hk7 hk57 hln
      go_wp2_with (first
        | (go_at_call 19; (with_reducible refine HS1.out.mono ?_); rintro e w8 ⟨rfl, hk8⟩; have HK8 := Lib.hid hk8; clear hk8)
        | (go_at_call 19; (with_reducible refine (HS2.out _ HK8.out).mono ?_); rintro e w9 ⟨rfl, hk9⟩; have HK9 := Lib.hid hk9; clear hk9)
        | (go_at_call 10; refine (awake13 _).mono ?_; rintro e w10 ⟨rfl, hk10⟩))
      go_ret
      exact ⟨rfl, ((HU7.out.kept.then HK8.out).then HK9.out).then hk10⟩
end Go.Proofs.YtcclbaphdblcfaaDoor
