/- The log: tell. -/
import Derived.Test.YtcclbaphdblcfaaDoorPgWal9
namespace Go.Proofs.YtcclbaphdblcfaaDoor
open Go.RowKit

/-- behind a mark that is written -/
def RetTold (w : World) (b bd : Nat) (d : Dsk) (F : Nat → Prop) (L : Wal.Lg) (R : Nat → Prop) (en : Ending) (w' : World) : Prop :=
  en = .returned .nilIface ∧ ∃ d' F', DiskAt w' bd d' F' ∧ Grows F w.heap.size F' ∧ Kept (Por F (Just b)) w w' ∧ Wal.Live d' ∧ d'.order = [] ∧ d'.now = Wal.markPut d.now L ∧ d'.ops ≤ d.ops + 10 ∧ LogAt w' b bd L R ∧ ¬ F' b

set_option maxRecDepth 100000 in
set_option maxHeartbeats 4000000 in
theorem log_tell (w : World) (b bd : Nat) (L L' : Wal.Lg) (R R' : Nat → Prop) (d : Dsk) (F : Nat → Prop) (h : LogAt w b bd L R) (hfr : L'.frm = L.frm) (hha : L'.half = L.half) (hD : DiskAt w bd d F) (hbF : ¬ F b) (hl : Wal.Live d) (hops : d.ops ≤ 2000000000000) (hfit : L'.Fits d.now.length)
    (rv : Value) (vs : List Value) (hrv : Reads w rv vs R') (hvs : ReadRows w vs L'.recs R') (hRb : ¬ R' b) (hRF : Disj R' F) (hRu : Under R' w.heap.size) :
    Calls Tryd.prog 40 #[.pointer (some ⟨b, 0, none⟩), .agg #[.int .i64 L'.hf, .int .i64 L'.base, .int .i64 L'.first, .int .i64 L'.size], rv] w (RetTold w b bd d F L' R') := by
  obtain ⟨rv0, vs0, hb, -, -, -, -⟩ := h
  obtain ⟨ra, rc, rfl, -⟩ := hrv.shape
  rw [← hfr, ← hha] at hb
  clear hfr hha
  have hnl : d.now.length = d.good.length := hD.wf.len
  have hmost := hD.wf.most
  have hroom := hfit.room
  have hsz := hfit.size
  have hsm := hfit.small
  have hbase := hfit.base
  have hhf := hfit.hf
  have hbl : b < w.heap.size := (Array.getElem?_eq_some_iff.1 hb).1
  have c0 := cell_at hb 0 _ rfl
  have c1 := cell_at hb 1 _ rfl
  have HB := Lib.hid hb
  have HD := Lib.hid hD
  have HbF := Lib.hid hbF
  have HLv := Lib.hid hl
  have HRv := Lib.hid hrv
  have HVs := Lib.hid hvs
  have HRb := Lib.hid hRb
  have HRF := Lib.hid hRF
  have HRu := Lib.hid hRu
  have HNL := Lib.hid hnl
  obtain ⟨x, hx⟩ : ∃ x, x = Wal.markRow L'.hf L'.base L'.first L'.size := ⟨_, rfl⟩
  have HX := Lib.hid hx
  have ka := Kept.alloc Nob w (.cells #[.int .i64 L'.hf, .int .i64 L'.base, .int .i64 L'.first, .int .i64 L'.size] 68)
  have HKA := Lib.hid ka
  have HMk := Lib.hid (mark_any (w.alloc (.cells #[.int .i64 L'.hf, .int .i64 L'.base, .int .i64 L'.first, .int .i64 L'.size] 68)).drew L'.hf L'.base L'.first L'.size (by omega) (by omega) (by omega) (by omega))
  rw [← hx] at HMk
  have HU := Lib.hid hD.under
  clear hb hD hbF hl hrv hvs hRb hRF hRu hnl ka hx hfit
  go_enter Tryd.func40, Tryd.ntmps40
  go_wp2_with fail
  go_region_held3 (fun w' => w'.cell? ⟨b, 0, none⟩ = some (.pointer (some ⟨bd, 0, none⟩)) ∧ w'.cell? ⟨b, 1, none⟩ = some (.int .i64 L'.frm) ∧ w'.cell? ⟨w.heap.size, 0, none⟩ = some (.int .i64 L'.hf) ∧ w'.cell? ⟨w.heap.size, 1, none⟩ = some (.int .i64 L'.base) ∧ w'.cell? ⟨w.heap.size, 2, none⟩ = some (.int .i64 L'.first) ∧ w'.cell? ⟨w.heap.size, 3, none⟩ = some (.int .i64 L'.size)) (first | (go_keep; done) | (go_split_ands; exact ⟨‹_›, ‹_›, ‹_›, ‹_›, ‹_›, ‹_›⟩))
    ((first
      | (go_at_call 58; refine HMk.out.mono ?_; rintro e w3 ⟨a3, c3, rfl, ho3, hk3, -⟩;
         rw [show x.length = 64 from by rw [HX.out]; rfl] at ho3 ⊢;
         have k3 := HKA.out.trans' ((Kept.drew Nob _).trans' hk3);
         have t0 : w3.cell? ⟨w.heap.size, 0, none⟩ = some (.int .i64 L'.hf) := (hk3.cell (p := ⟨w.heap.size, 0, none⟩) (by simp) (fun f => f)).trans (by simp); have t1 : w3.cell? ⟨w.heap.size, 1, none⟩ = some (.int .i64 L'.base) := (hk3.cell (p := ⟨w.heap.size, 1, none⟩) (by simp) (fun f => f)).trans (by simp); have t2 : w3.cell? ⟨w.heap.size, 2, none⟩ = some (.int .i64 L'.first) := (hk3.cell (p := ⟨w.heap.size, 2, none⟩) (by simp) (fun f => f)).trans (by simp); have t3 : w3.cell? ⟨w.heap.size, 3, none⟩ = some (.int .i64 L'.size) := (hk3.cell (p := ⟨w.heap.size, 3, none⟩) (by simp) (fun f => f)).trans (by simp);
         have q0 := (k3.cell (p := ⟨b, 0, none⟩) hbl (fun f => f)).trans c0; have q1 := (k3.cell (p := ⟨b, 1, none⟩) hbl (fun f => f)).trans c1;
         have HWr := Lib.hid (disk_write w3 bd d F (HD.out.kept k3 (fun _ _ f => f)) L'.frm (by have := HNL.out; omega) _ x _ ho3.reads ⟨by rw [HX.out]; rfl, by rw [HX.out]; exact Wal.markRow_bytes _ _ _ _⟩ (fun j hj hF => by have := HU.out j hF; simp [From] at hj; omega) (by omega) HLv.out.goes);
         have HK3 := Lib.hid k3; clear ho3 hk3 k3)
      | (go_at_call 57; refine HWr.out.mono ?_; rintro e w4 ⟨rfl, F4, hD4, hg4, hk4⟩;
         have s0 := (hk4.cell (p := ⟨w.heap.size, 0, none⟩) (cell_lt t0) (fun h => absurd (HU.out _ h) (Nat.lt_irrefl _))).trans t0; have s1 := (hk4.cell (p := ⟨w.heap.size, 1, none⟩) (cell_lt t1) (fun h => absurd (HU.out _ h) (Nat.lt_irrefl _))).trans t1; have s2 := (hk4.cell (p := ⟨w.heap.size, 2, none⟩) (cell_lt t2) (fun h => absurd (HU.out _ h) (Nat.lt_irrefl _))).trans t2; have s3 := (hk4.cell (p := ⟨w.heap.size, 3, none⟩) (cell_lt t3) (fun h => absurd (HU.out _ h) (Nat.lt_irrefl _))).trans t3;
         have r0 := (hk4.cell (p := ⟨b, 0, none⟩) (cell_lt q0) HbF.out).trans q0; have r1 := (hk4.cell (p := ⟨b, 1, none⟩) (cell_lt q1) HbF.out).trans q1; have HD4 := Lib.hid hD4; have HG4 := Lib.hid hg4; have HK4 := Lib.hid hk4; clear hD4 hg4 hk4)))
  have HL4 := Lib.hid ((HLv.out.begun).put L'.frm x)
  have HSy := Lib.hid (disk_sync w4 bd (d.begun.put L'.frm x) F4 HD4.out (by simp only [Dsk.put, Dsk.begun]; omega) HL4.out.goes)
  have HSn := Lib.hid (Wal.sync_now HL4.out)
  have k04 := HK3.out.nob.trans' HK4.out
  have hbF4 : ¬ F4 b := fun h => by
    rcases HG4.out b h with q | q
    · exact HbF.out q
    · have := HK3.out.size; omega
  have hpF4 : ¬ F4 w.heap.size := fun h => by
    rcases HG4.out _ h with q | q
    · exact absurd (HU.out _ q) (Nat.lt_irrefl _)
    · have := cell_lt t0; simp at this; omega
  have HB4 := Lib.hid hbF4
  have HP4 := Lib.hid hpF4
  have HK04 := Lib.hid k04
  clear hbF4 hpF4 k04 q0 q1 t0 t1 t2 t3 c0 c1 HWr HMk
  go_wp2_with fail
  refine HSy.out.mono ?_
  rintro e w5 ⟨rfl, F5, hD5, hg5, hk5⟩
  have hb5 := (hk5.block b (cell_lt r0) HB4.out).trans ((HK04.out.block b hbl HbF.out).trans HB.out)
  have u0 := (hk5.cell (p := ⟨w.heap.size, 0, none⟩) (cell_lt s0) HP4.out).trans s0
  have u1 := (hk5.cell (p := ⟨w.heap.size, 1, none⟩) (cell_lt s1) HP4.out).trans s1
  have u2 := (hk5.cell (p := ⟨w.heap.size, 2, none⟩) (cell_lt s2) HP4.out).trans s2
  have u3 := (hk5.cell (p := ⟨w.heap.size, 3, none⟩) (cell_lt s3) HP4.out).trans s3
  have e3 := cell_at hb5 3 _ rfl
  have e4 := cell_at hb5 4 _ rfl
  have e5 := cell_at hb5 5 _ rfl
  have e6 := cell_at hb5 6 _ rfl
  have e7 := cell_at hb5 7 _ rfl
  have f3 := frozen_at hb5 3
  have f4 := frozen_at hb5 4
  have f5 := frozen_at hb5 5
  have f6 := frozen_at hb5 6
  have f7 := frozen_at hb5 7
  have hbp : b ≠ w.heap.size := by omega
  have HB5 := Lib.hid hb5
  have HD5 := Lib.hid hD5
  have HG5 := Lib.hid hg5
  have HK5 := Lib.hid hk5
  clear hb5 hD5 hg5 hk5 r0 r1 s0 s1 s2 s3 HSy
  go_wp2_with fail
  go_ret
  have hs3 := HK3.out.size
  have hs4 := HK4.out.size
  have hF45 : ∀ j, F5 j → F j ∨ w.heap.size ≤ j := fun j hj => by
    rcases HG5.out j hj with q | q
    · rcases HG4.out j q with q | q
      · exact .inl q
      · exact .inr (by omega)
    · exact .inr (by omega)
  have hF4w : ∀ j, j < w.heap.size → F4 j → F j := fun j hj q => by
    rcases HG4.out j q with q | q
    · exact q
    · omega
  have k5 : Kept F w w5 := HK04.out.trans HK5.out hF4w
  have hR5 : Disj R' F4 := fun j hj hf => HRF.out j hj (hF4w j (HRu.out j hj) hf)
  obtain ⟨g1, g2⟩ := LogAt.loaded (bd := bd) (L := L') (rv := .slice ra vs.length rc) (vs := vs) (R := R') HB5.out (HRv.out.kept k5 HRF.out) (HVs.out.kept k5 HRF.out) HRb.out (HRu.out.mono k5.size)
  have hb5 : ¬ F5 b := fun h => by
    rcases hF45 b h with q | q
    · exact HbF.out q
    · omega
  refine ⟨rfl, _, F5, HD5.out.kept g2 (fun j hj h => hb5 (by rw [show j = b from h] at hj; exact hj)), hF45, (k5.mono fun j _ h => .inl h).trans g2 (fun j _ h => .inr h), HL4.out.sync, HSn.out.2.1, ?_, ?_, g1, hb5⟩
  · rw [HSn.out.1]
    simp only [Dsk.put, Dsk.begun, Wal.markPut]
    rw [HX.out]
  · rw [HSn.out.2.2]
    simp only [Dsk.put, Dsk.begun]
    omega
end Go.Proofs.YtcclbaphdblcfaaDoor
