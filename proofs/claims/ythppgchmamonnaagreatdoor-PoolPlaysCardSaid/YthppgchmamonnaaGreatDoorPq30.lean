/- The document's own pool: write of a page that is held; drop; NewPool. -/
import Derived.Test.YthppgchmamonnaaGreatDoorPq15
import Derived.Test.YthppgchmamonnaaGreatDoorPq25
import Derived.Test.YthppgchmamonnaaGreatDoorPq29
namespace Go.Proofs.YthppgchmamonnaaGreatDoor
open Go.RowKit
def DWrRel (w1 : World) (md : Nat) (d : Dsk) (R : Nat → Prop) (s : Nat) (ys : List Int) (j : Nat) (wr : World) : Prop :=
  (d.wr s ys j).2 = 0 ∧ ∃ R', DocAt wr md (d.wr s ys j).1 R' ∧ Grows R w1.heap.size R' ∧ Kept (Just md) w1 wr
set_option maxRecDepth 100000 in
set_option maxHeartbeats 4000000 in
theorem dpool_write (w : World) (m md : Nat) (Q : DPl) (S : Nat → Prop) (h : DPoolAt w m md Q S) (x : DHd) (hx : x ∈ Q.all) (hk2 : x.n ≤ 2000) (p : PgM) (R : Nat → Prop) (hp : DPgAt w x.pg p R) (hz : Sized p.ss) (hu : usedOf p.ss ≤ 512) (hid : 0 ≤ p.id ∧ p.id < 4294967296)
    (d : Dsk) (DR : Nat → Prop) (hD : DocAt w md d DR) (hmd : m ≠ md) (hgd : x.g ≠ md) (hkl : 8 * x.n + 8 ≤ d.good.length) (hops : d.ops ≤ 1000000000000) :
    Calls Tryz.prog 87 #[.pointer (some ⟨m, 0, none⟩), .pointer (some ⟨x.g, 0, none⟩)] w (RetDoc w md (d.wr (8 * x.n) (bytesOf p) 8).1 DR (d.wr (8 * x.n) (bytesOf p) 8).2) := by
  have HBt := Lib.hid (dpage_bytes w x.pg p R hp hz hu hid)
  have c1 : w.cell? ⟨x.g, 1, none⟩ = some (.pointer (some ⟨x.pg, 0, none⟩)) := cell_at (h.held _ hx).1 1 _ rfl
  have cn : w.cell? ⟨x.g, 0, none⟩ = some (.int .i64 x.n) := cell_at (h.held _ hx).1 0 _ rfl
  obtain ⟨_, _, hb0, -⟩ := h.head
  have c0 : w.cell? ⟨m, 0, none⟩ = some (.pointer (some ⟨md, 0, none⟩)) := cell_at hb0 0 _ rfl
  have HC := Lib.hid (And.intro c0 cn)
  have hml := h.lt
  have hgl0 : x.g < w.heap.size := cell_lt cn
  have HD := Lib.hid hD
  have hdl := hD.lt
  have HLn := Lib.hid (bytesOf_length p hu)
  clear h hx hp hz hu hD hb0 c0 cn hid
  generalize bytesOf p = ys at *
  generalize x.n = k at *
  generalize x.g = xg at *
  go_enter Tryz.func87, Tryz.ntmps87
  go_wp2_with (go_at_call 52; (with_reducible refine HBt.out.mono ?_); rintro e w1 ⟨g, rfl, hb1, hk1⟩; have HBy1 := Lib.hid hb1; have HK1 := Lib.hid hk1; clear hb1 hk1)
  have hgs : w.heap.size ≤ g := HBy1.out.2 g rfl
  have hgl : g < w1.heap.size := HBy1.out.blockLt rfl
  have HR1 : Hid (Reads w1 (.slice (some ⟨g, 0, none⟩) 512 512) (ys.map (Value.int .u8)) (fun q => q = g)) := Lib.hid (Own.reads (F := fun q => q = g) ⟨HBy1.out.1, fun q hq => by
    simp only [Value.ownBlock, Option.some.injEq] at hq; exact hq.symm⟩)
  have hgm : g ≠ md := by omega
  have HC1 : Hid (w1.cell? ⟨m, 0, none⟩ = some (.pointer (some ⟨md, 0, none⟩)) ∧ w1.cell? ⟨xg, 0, none⟩ = some (.int .i64 k)) := Lib.hid ⟨(HK1.out.cell (p := ⟨m, 0, none⟩) hml (fun f => f)).trans HC.out.1, (HK1.out.cell (p := ⟨xg, 0, none⟩) hgl0 (fun f => f)).trans HC.out.2⟩
  have hm1 : m < w1.heap.size := by have := HK1.out.size; omega
  have hg1 : xg < w1.heap.size := by have := HK1.out.size; omega
  have HS0 : Hid (DWrRel w1 md d DR (8 * k) ys 0 w1) := Lib.hid ⟨rfl, DR, HD.out.kept HK1.out (fun f => f) (fun _ _ f => f), Grows.refl _ _, Kept.refl _ _⟩
  clear c1
  go_loopw [6, 7] (fun i e wr => ∃ j : Nat, j ≤ 8 ∧ i = .int .i64 j ∧ DWrRel w1 md d DR (8 * k) ys j wr) (fun i _ _ => 8 - (intOf i).toNat)
  case atStart => exact ⟨0, by omega, rfl, HS0.out⟩
  case round =>
    clear HS0
    obtain ⟨j, hj, rfl, hgo, R1, hd1, hg1', hk1⟩ := hrel
    have HGo := Lib.hid hgo
    have HD1 := Lib.hid hd1
    have HG1 := Lib.hid hg1'
    have HKr := Lib.hid hk1
    have c0 : wr.cell? ⟨m, 0, none⟩ = some (.pointer (some ⟨md, 0, none⟩)) := (hk1.cell (p := ⟨m, 0, none⟩) hm1 hmd).trans HC1.out.1
    have cn : wr.cell? ⟨xg, 0, none⟩ = some (.int .i64 k) := (hk1.cell (p := ⟨xg, 0, none⟩) hg1 hgd).trans HC1.out.2
    have HC0r := Lib.hid (And.intro c0 cn)
    clear hd1 hg1' hk1 hgo
    by_cases hlt : j < 8
    · have hmr : m < wr.heap.size := cell_lt c0
      have hgr : xg < wr.heap.size := cell_lt cn
      have hrd : Reads wr (.slice (some ⟨g, j * 64, none⟩) 64 (512 - j * 64)) (sector ys j) (fun q => q = g) := by
        have h1 := (HR1.out.kept HKr.out (fun q hq f => hgm (by rw [← hq]; exact f))).dropped (j * 64) (by rw [List.length_map, HLn.out]; omega)
        have h2 := h1.take 64 (by rw [List.length_drop, List.length_map, HLn.out]; omega) (by rw [List.length_drop, List.length_map, HLn.out]; omega)
        rw [← List.map_drop, ← List.map_take, Nat.zero_add, Nat.mul_comm j 64] at h2
        rw [Nat.mul_comm j 64]
        exact h2
      have HWr : Hid (∀ W, Kept Nob wr W → Calls Tryz.prog 108 #[.pointer (some ⟨md, 0, none⟩), .int .i64 (8 * (k : Int) + (j : Int)), .slice (some ⟨g, j * 64, none⟩) 64 (512 - j * 64)] W (RetDoc W md (d.wr (8 * k) ys (j + 1)).1 R1 (d.wr (8 * k) ys (j + 1)).2)) := Lib.hid fun W q => by
        have := doc_write_any W md _ R1 (HD1.out.kept q (fun f => f) (fun _ _ f => f)) ((8 * k + j : Nat) : Int) _ _ _ (hrd.kept q (fun _ _ f => f)) (sector_bytes ys j) (fun h => hgm h.symm) (by have := Dsk.wr_ops d (8 * k) ys j; omega)
        rw [← Dsk.wr_go HGo.out] at this
        rw [show ((8 * k + j : Nat) : Int) = 8 * (k : Int) + (j : Int) from by omega] at this
        exact this
      clear hrd
      have hw1 : IntKind.i64.wrap ((j : Int) * 64) = (j : Int) * 64 := IntWalk.i64_in _ ⟨by omega, by omega⟩
      have hw2 : IntKind.i64.wrap ((j : Int) + 1) = (j : Int) + 1 := IntWalk.i64_in _ ⟨by omega, by omega⟩
      have hw3 : IntKind.i64.wrap (((j : Int) + 1) * 64) = ((j : Int) + 1) * 64 := IntWalk.i64_in _ ⟨by omega, by omega⟩
      have hw4 : IntKind.i64.wrap (8 * (k : Int)) = 8 * (k : Int) := IntWalk.i64_in _ ⟨by omega, by omega⟩
      have hw5 : IntKind.i64.wrap (8 * (k : Int) + (j : Int)) = 8 * (k : Int) + (j : Int) := IntWalk.i64_in _ ⟨by omega, by omega⟩
      have hn1 : ((j : Int) * 64).toNat = j * 64 := by omega
      have hn2 : (((j : Int) + 1) * 64).toNat = j * 64 + 64 := by omega
      have hq1 : (0 : Int) ≤ (j : Int) * 64 := by omega
      have hq2 : (j : Int) * 64 ≤ ((j : Int) + 1) * 64 := by omega
      have hq3 : ((j : Int) + 1) * 64 ≤ 512 := by omega
      have hq4 : ¬ 512 = j * 64 := by omega
      have hq6 : (0 : Int) ≤ ((j : Int) + 1) * 64 := by omega
      have hq7 : (j : Int) * 64 ≤ (j : Int) * 64 + 64 := by omega
      have hq5 : j * 64 + 64 - j * 64 = 64 := by omega
      by_cases hc : (d.wr (8 * k) ys (j + 1)).2 = 0
      · have HCz := Lib.hid hc
        rw [hc] at HWr
        clear hc
        go_wp2_with fail
        go_region_held3 (fun w' => w'.cell? ⟨m, 0, none⟩ = some (.pointer (some ⟨md, 0, none⟩)) ∧ w'.cell? ⟨xg, 0, none⟩ = some (.int .i64 k)) (first | (go_keep; done) | assumption | (exact ⟨by assumption, by assumption⟩))
          ((go_at_call 108; (with_reducible refine (HWr.out _ (Kept.drew Nob wr)).mono ?_); rintro e w3 ⟨rfl, ⟨R3, hd3, hg3⟩, hk3⟩; have HD3 := Lib.hid hd3; have HG3 := Lib.hid hg3; have HK3 := Lib.hid hk3; have c03 : w3.cell? ⟨m, 0, none⟩ = some (.pointer (some ⟨md, 0, none⟩)) := (hk3.cell (p := ⟨m, 0, none⟩) hmr hmd).trans (((Kept.drew Nob wr).cell (p := ⟨m, 0, none⟩) hmr (fun f => f)).trans HC0r.out.1); have cn3 : w3.cell? ⟨xg, 0, none⟩ = some (.int .i64 k) := (hk3.cell (p := ⟨xg, 0, none⟩) hgr hgd).trans (((Kept.drew Nob wr).cell (p := ⟨xg, 0, none⟩) hgr (fun f => f)).trans HC0r.out.2); clear hd3 hg3 hk3))
        have HN : Hid (DWrRel w1 md d DR (8 * k) ys (j + 1) w3) := Lib.hid ⟨HCz.out, R3, HD3.out, HG1.out.trans HG3.out (by have := HKr.out.size; have := (Kept.drew Nob wr).size; omega), HKr.out.trans' ((Kept.drew (Just md) wr).trans' HK3.out)⟩
        clear hw1 hw2 hw3 hw4 hw5 hn1 hn2 hq1 hq2 hq3 hq4 hq5 hq6 hq7
        go_wp2_with fail
        go_roundw
        case rel => exact ⟨j + 1, by omega, by go_num, HN.out⟩
        case measure => simp [intOf]; omega
      · have HCz := Lib.hid (Dsk.wr_stays hc 8 (by omega))
        have hc9 : (d.wr (8 * k) ys (j + 1)).2 = 9 := by
          have hc' := hc
          rw [Dsk.wr_go HGo.out] at hc' ⊢
          exact (Dsk.write_in (by rw [HD1.out.wf.len, Dsk.wr_good]; omega) (sector_length HLn.out hlt)).resolve_left hc'
        have HCC := Lib.hid hc9
        rw [hc9] at HWr
        clear hc hc9
        go_wp2_with fail
        go_region_held3 (fun w' => w'.cell? ⟨m, 0, none⟩ = some (.pointer (some ⟨md, 0, none⟩)) ∧ w'.cell? ⟨xg, 0, none⟩ = some (.int .i64 k)) (first | (go_keep; done) | assumption | (exact ⟨by assumption, by assumption⟩))
          ((go_at_call 108; (with_reducible refine (HWr.out _ (Kept.drew Nob wr)).mono ?_); rintro e w3 ⟨rfl, ⟨R3, hd3, hg3⟩, hk3⟩; have HD3 := Lib.hid hd3; have HG3 := Lib.hid hg3; have HK3 := Lib.hid hk3; have c03 : w3.cell? ⟨m, 0, none⟩ = some (.pointer (some ⟨md, 0, none⟩)) := (hk3.cell (p := ⟨m, 0, none⟩) hmr hmd).trans (((Kept.drew Nob wr).cell (p := ⟨m, 0, none⟩) hmr (fun f => f)).trans HC0r.out.1); have cn3 : w3.cell? ⟨xg, 0, none⟩ = some (.int .i64 k) := (hk3.cell (p := ⟨xg, 0, none⟩) hgr hgd).trans (((Kept.drew Nob wr).cell (p := ⟨xg, 0, none⟩) hgr (fun f => f)).trans HC0r.out.2); clear hd3 hg3 hk3))
        clear hw1 hw2 hw3 hw4 hw5 hn1 hn2 hq1 hq2 hq3 hq4 hq5 hq6 hq7
        go_wp2_with fail
        go_ret
        have s1 := HK1.out.size
        have s2 := HKr.out.size
        have s3 := (Kept.drew Nob wr).size
        rw [HCz.out, HCC.out]
        exact ⟨rfl, ⟨R3, HD3.out, fun q f => by
          rcases HG3.out q f with e | e
          · exact (HG1.out q e).imp id fun e => by omega
          · exact .inr (by omega)⟩, HK1.out.nob.trans' (HKr.out.trans' ((Kept.drew (Just md) wr).trans' HK3.out))⟩
    · have hj8 : j = 8 := by omega
      subst hj8
      clear hlt hj
      go_wp2_with fail
      go_ret
      rw [HGo.out]
      exact ⟨rfl, ⟨R1, HD1.out, fun q f => (HG1.out q f).imp id fun e => Nat.le_trans HK1.out.size e⟩, HK1.out.nob.trans' HKr.out⟩
end Go.Proofs.YthppgchmamonnaaGreatDoor
