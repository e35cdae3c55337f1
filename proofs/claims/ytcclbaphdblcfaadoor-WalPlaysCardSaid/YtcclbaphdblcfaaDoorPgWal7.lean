/- The log: read, where a mark lies. -/
import Derived.Test.YtcclbaphdblcfaaDoorPgWal7a
import Derived.Deep.DeepCutAuto
namespace Go.Proofs.YtcclbaphdblcfaaDoor
open Go.RowKit

theorem Reads.at {w : World} {b o c n : Nat} {xs : List Value} {F : Nat → Prop} (h : Reads w (.slice (some ⟨b, o, none⟩) n c) xs F) {i : Nat} {v : Value} (hv : xs[i]? = some v) : w.cell? ⟨b, o + i, none⟩ = some v := by
  have hi := (List.getElem?_eq_some_iff.1 hv).1
  obtain ⟨b', o', x, he, hx, hc, -⟩ := h.cell (i := i) hi
  simp only [Option.some.injEq, Addr.mk.injEq, and_true] at he
  obtain ⟨rfl, rfl⟩ := he
  rw [hc, ← hx, hv]

set_option maxRecDepth 100000 in
set_option maxHeartbeats 4000000 in
theorem read_mark (w : World) (b bd frm half : Nat) (d : Dsk) (F : Nat → Prop) (x3 x4 x5 x6 x7 : Value) (hb : w.heap[b]? = some (.cells #[.pointer (some ⟨bd, 0, none⟩), .int .i64 frm, .int .i64 half, x3, x4, x5, x6, x7, .bool false] 70 (0, 0))) (hD : DiskAt w bd d F) (_hbF : ¬ F b)
    (L : Wal.Lg) (hL : Wal.On d.now L) (hfrm : L.frm = frm) (hhalf : L.half = half) (hz : d.now.getD frm [] = Wal.markRow L.hf L.base L.first L.size) :
    Calls Tryd.prog 32 #[.pointer (some ⟨b, 0, none⟩)] w fun e w' => e = .returned (.bool true) ∧ (∃ R, LogAt w' b bd L R ∧ ∀ j, R j → w.heap.size ≤ j) ∧ Kept (Just b) w w' := by
  subst hfrm hhalf
  have hfit := hL.fits
  have hnl : d.now.length = d.good.length := hD.wf.len
  have hmost := hD.wf.most
  have hroom := hfit.room
  have h1 := hfit.hf
  have h2 := hfit.half
  have h3 := hfit.base
  have h4 := hfit.size
  have h5 := hfit.small
  have h : LogHead w b bd L.frm L.half := ⟨cell_at hb 0 _ rfl, cell_at hb 1 _ rfl, cell_at hb 2 _ rfl⟩
  have HRd := Lib.hid (disk_read w.drew bd d F (hD.kept (Kept.drew Nob w) (fun _ _ f => f)) L.frm (by omega))
  rw [hz] at HRd
  have HB := Lib.hid hb
  have HL := Lib.hid hL
  have HD := Lib.hid hD
  have HH := Lib.hid h
  have c0 := h.c0
  have c1 := h.c1
  have c2 := h.c2
  clear h hD hz hL hfit hb
  have hfr : L.frm = L.frm := rfl
  clear hfr
  go_enter Tryd.func32, Tryd.ntmps32
  go_wp2_with fail
  go_region_held3 (fun w' => w'.cell? ⟨b, 0, none⟩ = some (.pointer (some ⟨bd, 0, none⟩)) ∧ w'.cell? ⟨b, 1, none⟩ = some (.int .i64 L.frm)) (first | (go_keep; done) | (go_split_ands; exact ⟨‹_›, ‹_›⟩))
    ((go_at_call 21; refine HRd.out.mono ?_; rintro e w3 ⟨b3, c3, rfl, ho3, hk3⟩; rw [show (Wal.markRow L.hf L.base L.first L.size).length = 64 from rfl] at ho3 ⊢; have q1 := (hk3.cell (p := ⟨b, 0, none⟩) (cell_lt c0) (fun f => f)).trans c0; have q3 := (hk3.cell (p := ⟨b, 2, none⟩) (cell_lt c2) (fun f => f)).trans c2; have q2 := (hk3.cell (p := ⟨b, 1, none⟩) (cell_lt c1) (fun f => f)).trans c1; have HO3 := Lib.hid ho3; have HK3 := Lib.hid hk3; clear ho3 hk3))
  obtain ⟨b5, o5, rfl, -, hc5, -, -⟩ := HO3.out.reads.some' (by rw [Wal.markRow_length]; omega)
  have hc5' : 64 ≤ c3 := hc5
  have HX := Lib.hid HO3.out.reads
  have zc : ∀ i v, (Wal.markRow L.hf L.base L.first L.size)[i]? = some v → w3.cell? ⟨b5, o5 + i, none⟩ = some v := fun i v hv => HX.out.at hv
  have hcv : (convert 47 9 (.slice (some ⟨b5, o5, none⟩) 4 c3)).run Tryd.prog w3 = .ok (.string ⟨#[87, 65, 76, 50]⟩) w3 :=
    run_convert_bytes_back w3 _ _ _ ⟨b5, o5, none⟩ c3 [87, 65, 76, 50] Tryd.underlying47 Tryd.underlying5 Tryd.underlying9 (fun j hj => by
      rw [show (⟨b5, o5, none⟩ : Addr).add j = ⟨b5, o5 + j, none⟩ from by unfold Addr.add; split <;> simp_all]
      have : j = 0 ∨ j = 1 ∨ j = 2 ∨ j = 3 := by simp at hj; omega
      rcases this with rfl | rfl | rfl | rfl <;> exact zc _ _ rfl)
  have z4 := zc 4 (.int .u8 L.hf) rfl
  have n8 : ¬ c3 = 8 := by omega
  have n16 : ¬ c3 = 16 := by omega
  have n24 : ¬ c3 = 24 := by omega
  have i8 : (8 : Int) ≤ (c3 : Int) := by omega
  have i16 : (16 : Int) ≤ (c3 : Int) := by omega
  have i24 : (24 : Int) ≤ (c3 : Int) := by omega
  have HG1 := Lib.hid (fun W (q : Kept Nob w3 W) => get_word W (.slice (some ⟨b5, o5 + 8, none⟩) 56 (c3 - 8)) L.base (by omega) (Wal.word L.first ++ Wal.word L.size ++ List.replicate 32 (.int .u8 0)) _ ((HX.out.kept q (fun _ _ f => f)).from' 8 (by rw [Wal.markRow_length]; omega)))
  have HG2 := Lib.hid (fun W (q : Kept Nob w3 W) => get_word W (.slice (some ⟨b5, o5 + 16, none⟩) 48 (c3 - 16)) L.first (by omega) (Wal.word L.size ++ List.replicate 32 (.int .u8 0)) _ ((HX.out.kept q (fun _ _ f => f)).from' 16 (by rw [Wal.markRow_length]; omega)))
  have HG3 := Lib.hid (fun W (q : Kept Nob w3 W) => get_word W (.slice (some ⟨b5, o5 + 24, none⟩) 40 (c3 - 24)) L.size (by omega) (List.replicate 32 (.int .u8 0)) _ ((HX.out.kept q (fun _ _ f => f)).from' 24 (by rw [Wal.markRow_length]; omega)))
  have hwr : IntKind.i64.wrap (L.hf : Int) = (L.hf : Int) := IntWalk.i64_in _ (by omega)
  have g1 : decide ((2 : Int) ≤ (L.hf : Int)) = false := by simp; omega
  have hb3 : b < w3.heap.size := cell_lt q1
  have g2 : decide ((L.base : Int) < 0) = false := by simp
  have g4 : decide ((L.size : Int) < 0) = false := by simp
  have g3 : decide ((L.first : Int) < (L.base : Int)) = false := by simp; omega
  have g3' : decide (L.first < L.base) = false := by simp; omega
  have g5 : decide ((L.half : Int) * 64 < (L.size : Int)) = false := by simp; omega
  clear zc hc5
  go_upto_region 4 with fail
  go_cut [5] (fun s5 wx => s5 = .pointer (some ⟨w3.heap.size, 0, none⟩) ∧ wx.cell? ⟨w3.heap.size, 0, none⟩ = some (.int .i64 L.hf) ∧ wx.cell? ⟨w3.heap.size, 1, none⟩ = some (.int .i64 L.base) ∧ wx.cell? ⟨w3.heap.size, 2, none⟩ = some (.int .i64 L.first) ∧ wx.cell? ⟨w3.heap.size, 3, none⟩ = some (.int .i64 L.size) ∧ Kept Nob w3 wx)
  case first =>
    go_region_held3 (fun w' => w'.cell? ⟨b5, o5 + 4, none⟩ = some (.int .u8 L.hf)) (first | (go_keep; done) | assumption)
      ((first
        | (go_at_call 45; (with_reducible refine (HG1.out _ ?kq).mono ?_); (case kq => first | exact Kept.drew Nob w3 | exact (Kept.alloc Nob w3 _).trans' (Kept.drew Nob _) | exact (Kept.drew Nob w3).trans' (Kept.alloc Nob _ _)); rintro e w' ⟨rfl, rfl⟩)
        | (go_at_call 45; (with_reducible refine (HG2.out _ ?kq).mono ?_); (case kq => first | exact Kept.drew Nob w3 | exact (Kept.alloc Nob w3 _).trans' (Kept.drew Nob _) | exact (Kept.drew Nob w3).trans' (Kept.alloc Nob _ _)); rintro e w' ⟨rfl, rfl⟩)
        | (go_at_call 45; (with_reducible refine (HG3.out _ ?kq).mono ?_); (case kq => first | exact Kept.drew Nob w3 | exact (Kept.alloc Nob w3 _).trans' (Kept.drew Nob _) | exact (Kept.drew Nob w3).trans' (Kept.alloc Nob _ _)); rintro e w' ⟨rfl, rfl⟩)))
    all_goals (go_wp2_with fail; go_meet; exact ⟨rfl, by simp, by simp, by simp, by simp, (Kept.alloc Nob w3 _).trans' (Kept.drew Nob _)⟩)
  case rest =>
    obtain ⟨rfl, p0, p1, p2, p3, kx⟩ := hcut
    have hp3 : w3.heap.size < wc.heap.size := cell_lt p0
    have kw := (HK3.out.drewL).then kx
    have q2x := (kw.cell (cell_lt c2) (fun f => f)).trans c2
    have HKW := Lib.hid kw
    have HBy := Lib.hid (fun n => log_bytes0 (wc.drewN n) b bd L.frm L.half d F (HH.out.kept (kw.then (Kept.drewN Nob _ n)) (fun f => f)) (HD.out.kept (kw.then (Kept.drewN Nob _ n)) (fun _ _ f => f)) L.hf L.size ((L.size + 63) / 64) h1 (by omega) (by omega) (by omega) (by omega) rfl)
    clear hwr HG1 HG2 HG3 kx kw hb3 q1 q2 q3 z4 hcv HX HO3 c0 c1 c2
    go_wp2_with fail
    go_quiet (fail)
    go_wp2_with fail
    refine (HBy.out nq).mono ?_
    rintro e w4 ⟨a4, n4, c4, rfl, ho4, hk4⟩
    obtain ⟨dead, hdl, hdr, hflat, hsize⟩ := HL.out.body
    have hrs : ∀ r ∈ dead ++ L.recs, Wal.Rec r := fun r hr => by
      rcases List.mem_append.1 hr with hr | hr
      · exact hdr r hr
      · exact HL.out.fits.recs r hr
    have hw2 := Wal.weight_two (dead ++ L.recs)
    have hnr : (dead ++ L.recs).length = L.first - L.base + L.recs.length := by rw [List.length_append, hdl]
    have hpk : (Wal.flat d.now (L.frm + 1 + L.hf * L.half) ((L.size + 63) / 64)).take L.size = Wal.pack (dead ++ L.recs) := by
      rw [← hflat]
      have hh2 : L.hf * L.half ≤ L.half := by
        have := Nat.mul_le_mul_right L.half h1
        omega
      exact by
        have h := (Wal.flat_take_le (s := L.frm + 1 + L.hf * L.half) (n := L.half) (k := (L.size + 63) / 64) (E := L.size) HD.out.wf.now (by omega) (by omega) (by omega)).symm
        exact h
    rw [hpk] at ho4
    have HPa := Lib.hid (parted_any w4 _ (dead ++ L.recs) _ (ho4.reads.mono (G := fun j => j < w4.heap.size) fun j hj _ => hj) hrs (by omega) (fun j hj => hj))
    have k4 := (HKW.out.then (Kept.drewN Nob wc nq)).then hk4
    have p04 := (hk4.cell (p := ⟨w3.heap.size, 0, none⟩) hp3 (fun f => f)).trans p0
    have p14 := (hk4.cell (p := ⟨w3.heap.size, 1, none⟩) hp3 (fun f => f)).trans p1
    have p24 := (hk4.cell (p := ⟨w3.heap.size, 2, none⟩) hp3 (fun f => f)).trans p2
    have p34 := (hk4.cell (p := ⟨w3.heap.size, 3, none⟩) hp3 (fun f => f)).trans p3
    have HK4 := Lib.hid k4
    have HDL := Lib.hid hdl
    have HNR := Lib.hid hnr
    clear ho4 hk4 k4 hdl hdr hflat hsize hrs hw2 hpk hnr p0 p1 p2 p3 HBy q2x
    go_wp2_with fail
    refine HPa.out.mono ?_
    rintro e w5 ⟨b6, c6, vs6, rfl, hvl6, ho6, hr6, hk6⟩
    have k6 := HK4.out.then hk6
    have hp5 : w3.heap.size < w5.heap.size := Nat.lt_of_lt_of_le (cell_lt p04) hk6.size
    have p05 := (hk6.cell (p := ⟨w3.heap.size, 0, none⟩) (cell_lt p04) (fun f => f)).trans p04
    have p15 := (hk6.cell (p := ⟨w3.heap.size, 1, none⟩) (cell_lt p14) (fun f => f)).trans p14
    have p25 := (hk6.cell (p := ⟨w3.heap.size, 2, none⟩) (cell_lt p24) (fun f => f)).trans p24
    have p35 := (hk6.cell (p := ⟨w3.heap.size, 3, none⟩) (cell_lt p34) (fun f => f)).trans p34
    have hb5 := (k6.block b (Array.getElem?_eq_some_iff.1 HB.out).1 (fun f => f)).trans HB.out
    have e3 := cell_at hb5 3 _ rfl
    have e4 := cell_at hb5 4 _ rfl
    have e5 := cell_at hb5 5 _ rfl
    have e6 := cell_at hb5 6 _ rfl
    have e7 := cell_at hb5 7 _ rfl
    have f3 := frozen_at hb5 3
    have f4 := frozen_at hb5 4
    have f5 := frozen_at hb5 5
    have f6 := frozen_at hb5 6
    have f7 := frozen_at hb5 7
    have hbp : b ≠ w3.heap.size := by
      have := (Array.getElem?_eq_some_iff.1 HB.out).1
      have := HK3.out.size
      simp at this
      omega
    rw [HNR.out] at ho6 ⊢
    have HB5 := Lib.hid hb5
    have HO6 := Lib.hid ho6
    have HR6 := Lib.hid hr6
    have HK6 := Lib.hid k6
    have HV6 := Lib.hid hvl6
    clear hb5 ho6 hr6 k6 hk6 hvl6 p04 p14 p24 p34 HPa
    go_wp2_with fail
    have i0 : (0 : Int) ≤ (L.first : Int) - (L.base : Int) := by omega
    have i1 : (L.first : Int) - (L.base : Int) ≤ ((L.first - L.base + L.recs.length : Nat) : Int) := by omega
    have i2 : IntKind.i64.wrap ((L.first : Int) - (L.base : Int)) = (L.first : Int) - (L.base : Int) := IntWalk.i64_in _ (by omega)
    have i3 : ((L.first : Int) - (L.base : Int)).toNat = L.first - L.base := by omega
    have hbw : b < w.heap.size := (Array.getElem?_eq_some_iff.1 HB.out).1
    have hs4 : w.heap.size ≤ w4.heap.size := HK4.out.size
    have hs5 : w.heap.size ≤ w5.heap.size := HK6.out.size
    have HRR : Hid (ReadRows w5 (vs6.drop (L.first - L.base)) L.recs (fun j => w.heap.size ≤ j ∧ j < w5.heap.size)) := by
      have h := (HR6.out.read.mono (G := fun j => w.heap.size ≤ j ∧ j < w5.heap.size) fun j hj h => ⟨by have : w4.heap.size ≤ j := h; omega, hj⟩).drop (L.first - L.base)
      rw [List.drop_left' HDL.out] at h
      exact Lib.hid h
    have HFin := Lib.hid (fun rv hrv => LogAt.loaded (rv := rv) (vs := vs6.drop (L.first - L.base)) (R := fun j => w.heap.size ≤ j ∧ j < w5.heap.size) HB5.out hrv HRR.out (by omega) (fun j hj => hj.2))
    have HK6b := Lib.hid HK6.out
    rcases HO6.out.shape with ⟨hv, hv2⟩ | ⟨g, cap, cur, hv, -, -, hcl, -, -, -, -⟩
    · simp only [Value.slice.injEq] at hv
      obtain ⟨rfl, hn0, rfl⟩ := hv
      have hk0 : L.first = L.base := by omega
      have hr0 : L.recs.length = 0 := by omega
      have HRv := Lib.hid (show Reads w5 (.slice none 0 0) (vs6.drop (L.first - L.base)) (fun j => w.heap.size ≤ j ∧ j < w5.heap.size) from .inl ⟨by rw [hv2]; simp, none, 0, rfl, fun _ => rfl⟩)
      have j1 : (L.first : Int) - (L.base : Int) = 0 := by omega
      have j2 : L.first - L.base = 0 := by omega
      clear hn0 hv2 hk0 i1
      go_region
      go_wp2_with fail
      go_ret
      have hf := HFin.out _ HRv.out
      exact ⟨rfl, ⟨_, hf.1.drew, fun j hj => hj.1⟩, (HK6b.out.nob.trans' hf.2).trans' (Kept.drew _ _)⟩
    · simp only [Value.slice.injEq] at hv
      obtain ⟨rfl, -, rfl⟩ := hv
      have hcl2 : L.first - L.base + L.recs.length ≤ c6 := by have := HV6.out; have := HNR.out; omega
      have i4 : (L.first : Int) - (L.base : Int) ≤ (c6 : Int) := by omega
      have HF := Lib.hid (HO6.out.reads.mono (G := fun j => w.heap.size ≤ j ∧ j < w5.heap.size) fun j hj h => ⟨by have : w4.heap.size ≤ j := h; omega, hj⟩)
      clear hcl
      by_cases hck : c6 = L.first - L.base
      · have hr0 : L.recs.length = 0 := by omega
        have HRv := Lib.hid (show Reads w5 (.slice (some ⟨g, 0, none⟩) 0 0) (vs6.drop (L.first - L.base)) (fun j => w.heap.size ≤ j ∧ j < w5.heap.size) from .inl ⟨List.drop_of_length_le (by have := HV6.out; have := HNR.out; omega), some ⟨g, 0, none⟩, 0, rfl, fun h => by cases h⟩)
        go_region
        go_wp2_with fail
        go_ret
        have hf := HFin.out _ HRv.out
        exact ⟨rfl, ⟨_, hf.1.drew, fun j hj => hj.1⟩, (HK6b.out.nob.trans' hf.2).trans' (Kept.drew _ _)⟩
      · have HRv : Hid (Reads w5 (.slice (some ⟨g, L.first - L.base, none⟩) L.recs.length (c6 - (L.first - L.base))) (vs6.drop (L.first - L.base)) (fun j => w.heap.size ≤ j ∧ j < w5.heap.size)) := by
          have h := HF.out.from' (L.first - L.base) (by have := HV6.out; have := HNR.out; omega)
          have e : L.first - L.base + L.recs.length - (L.first - L.base) = L.recs.length := by omega
          rw [e, Nat.zero_add] at h
          exact Lib.hid h
        go_region
        go_wp2_with fail
        go_ret
        have hf := HFin.out _ HRv.out
        exact ⟨rfl, ⟨_, hf.1.drew, fun j hj => hj.1⟩, (HK6b.out.nob.trans' hf.2).trans' (Kept.drew _ _)⟩
end Go.Proofs.YtcclbaphdblcfaaDoor
