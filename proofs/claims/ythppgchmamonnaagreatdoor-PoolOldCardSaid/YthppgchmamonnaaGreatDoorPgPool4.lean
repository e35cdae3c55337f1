/- The pool: read, of a page on which nothing was written. -/
import Derived.Test.YthppgchmamonnaaGreatDoorPgPool3
import Derived.Test.YthppgchmamonnaaGreatDoorPgWalM
namespace Go.Proofs.YthppgchmamonnaaGreatDoor
open Go.RowKit

/-- inside 'read': j sectors are read -/
def PReadRel (w : World) (now : List (List Value)) (s j : Nat) (v : Value) (wr : World) : Prop :=
  ∃ b cap, v = .slice b (64 * j) cap ∧ Own wr 5 v (Wal.flat now s j) (From w.heap.size) ∧ Kept Nob w wr

theorem zeros_flat (now : List (List Value)) (s : Nat) : ∀ n, (∀ i, i < n → now.getD (s + i) [] = Dsk.zeroSector) → Wal.flat now s n = (List.replicate (64 * n) (0 : Int)).map (Value.int .u8) := by
  intro n
  induction n with
  | zero => intro _; rfl
  | succ n ih =>
    intro h
    rw [Wal.flat, ih (fun i hi => h i (by omega)), h n (by omega), Dsk.zeroSector, List.map_replicate, List.map_replicate, List.replicate_append_replicate, Nat.mul_succ]
/-- the pool's own struct turns -/
theorem PoolAt.turn {w w' : World} {b bd mb : Nat} {P P' : Pl} {S : Nat → Prop} (h : PoolAt w b bd mb P S) (hk : Kept (Just b) w w') (ha : P'.all = P.all)
    (hb : w'.heap[b]? = some (.cells #[.pointer (some ⟨bd, 0, none⟩), .int .i64 P'.pages, .int .i64 P'.room, .int .i64 P'.mark, .int .i64 P'.clock, .map (some mb), .int .i64 P'.hits, .int .i64 P'.reads, .int .i64 P'.wrote] 76 (0, 0))) : PoolAt w' b bd mb P' S := by
  have hS : ∀ x, S x → ¬ Just b x := fun x hx hj => h.Sb (by rw [show x = b from hj] at hx; exact hx)
  refine ⟨hb, ?_, fun p hp => ?_, by rw [ha]; exact h.once, h.Sb, h.Sm, h.bm, h.under.mono hk.size⟩
  · have := h.map.kept hk (fun q => h.bm q.symm)
    unfold Pl.map at *
    rw [ha]; exact this
  · rw [ha] at hp
    exact ⟨(h.held p hp).1, (hk.block _ (h.under _ (h.held p hp).1) (hS _ (h.held p hp).1)).trans (h.held p hp).2⟩
/-- behind a read of a page -/
def RetPage (w : World) (b bd mb : Nat) (P : Pl) (S : Nat → Prop) (k : Int) (en : Ending) (w' : World) : Prop :=
  ∃ pg, en = .returned (.tuple #[.pointer (some ⟨pg, 0, none⟩), .nilIface]) ∧ w.heap.size ≤ pg ∧ PageHead w' pg 0 k (.slice none 0 0) ∧ PoolAt w' b bd mb { P with reads := P.reads + 1 } S ∧ Kept (Just b) w w'

set_option maxRecDepth 100000 in
set_option maxHeartbeats 2000000 in
theorem pool_read_zero (w : World) (b bd mb : Nat) (P : Pl) (S : Nat → Prop) (h : PoolAt w b bd mb P S) (d : Dsk) (F : Nat → Prop) (hD : DiskAt w bd d F) (k : Nat) (hk : 8 * k + 8 ≤ d.good.length) (hz : ∀ i, i < 8 → d.now.getD (8 * k + i) [] = Dsk.zeroSector) (hr : P.reads ≤ 1000000000000) :
    Calls Tryz.prog 36 #[.pointer (some ⟨b, 0, none⟩), .int .i64 k] w (RetPage w b bd mb P S k) := by
  have hm := hD.wf.most
  have HP := Lib.hid h
  have HD := Lib.hid hD
  have HZ := Lib.hid hz
  have hkb : k ≤ 2000 := by omega
  have HR0 : Hid (PReadRel w d.now (8 * k) 0 (.slice none 0 0) w) := ⟨none, 0, rfl, Own.nil _ _ _, Kept.refl _ _⟩
  clear h hD hz
  go_enter Tryz.func36, Tryz.ntmps36
  go_wp2
  go_loopw [6, 12] (fun o i wr => ∃ j : Nat, j ≤ 8 ∧ i = .int .i64 j ∧ PReadRel w d.now (8 * k) j o wr) (fun _ i _ => 8 - (intOf i).toNat)
  case atStart => exact ⟨0, by omega, rfl, HR0.out⟩
  case round =>
    clear HR0
    obtain ⟨j, hj, rfl, ob, oc, rfl, ho, hkw⟩ := hrel
    have HO := Lib.hid ho
    have HK := Lib.hid hkw
    have hPr := HP.out.nob hkw
    have c0 : wr.cell? ⟨b, 0, none⟩ = some (.pointer (some ⟨bd, 0, none⟩)) := cell_at hPr.head 0 _ rfl
    have c7 : wr.cell? ⟨b, 7, none⟩ = some (.int .i64 P.reads) := cell_at hPr.head 7 _ rfl
    have f7 : wr.frozen? ⟨b, 7, none⟩ = false := frozen_at hPr.head 7
    have HPr := Lib.hid hPr
    clear ho hkw hPr
    by_cases hlt : j < 8
    · have hX := Dsk.Sectors.getD HD.out.wf.now (i := 8 * k + j) (by rw [HD.out.wf.len]; omega)
      have HRd := Lib.hid (show Calls Tryz.prog 64 #[.pointer (some ⟨bd, 0, none⟩), .int .i64 ((k : Int) * 8 + (j : Int))] wr (RetRead wr (d.now.getD (8 * k + j) [])) from by
        have := disk_read wr bd d F (HD.out.kept HK.out (fun _ _ f => f)) (8 * k + j) (by omega)
        rw [show ((8 * k + j : Nat) : Int) = (k : Int) * 8 + (j : Int) from by omega] at this
        exact this)
      have HX := Lib.hid hX
      clear hX c7 f7
      go_wp2_with fail
      refine HRd.out.mono ?_
      rintro e w2 ⟨b2, c2, rfl, ho2, hk2⟩
      rw [HX.out.1] at ho2 ⊢
      have HO1 := Lib.hid (HO.out.kept hk2 (fun _ _ f => f))
      have HO2 := Lib.hid ho2
      have HK2 := Lib.hid (HK.out.then hk2)
      have hfl : (Wal.flat d.now (8 * k) j).length = 64 * j := Wal.flat_length HD.out.wf.now j (by rw [HD.out.wf.len]; omega)
      have HFl := Lib.hid hfl
      clear ho2 hk2 HRd hfl c0
      go_wp2_with (at_builtin; refine wpList_append_pg rfl _ _ 50 rfl tBytes (.slice ob (64 * j) oc) (.slice b2 64 c2) (Wal.flat d.now (8 * k) j) (d.now.getD (8 * k + j) []) _ _ rfl rfl HO1.out HO2.out.reads (fun u hu => (HX.out.2 u hu).one) (by rw [HX.out.1, HFl.out]; omega) ?_; intro b4 c4 w4 ho4 hk4 _; rw [HX.out.1, HFl.out] at ho4 ⊢; have HO4 := Lib.hid ho4; have HK4 := Lib.hid hk4; clear ho4 hk4)
      have HN : Hid (PReadRel w d.now (8 * k) (j + 1) (.slice b4 (64 * j + 64) c4) w4) := by
        refine Lib.hid ⟨b4, c4, by rw [Nat.mul_succ], ?_, HK2.out.from (Nat.le_refl _) (HK4.out.mono fun x _ hx => HO.out.2 x hx)⟩
        have := HO4.out.mono (G := From w.heap.size) (fun x _ hx => by
          rcases hx with hx | hx
          · exact HO.out.2 x hx
          · have := HK2.out.size; show _ ≤ _; omega)
        rw [Wal.flat]
        exact this
      go_roundw
      case rel => exact ⟨j + 1, by omega, by go_num, HN.out⟩
      case measure => simp [intOf]; omega
    · have hj8 : j = 8 := by omega
      subst hj8
      have hxs := HO.out.reads
      rw [zeros_flat d.now (8 * k) 8 HZ.out] at hxs
      have hbel := HPr.out.lt
      have hC := fun W (q : Kept (Just b) wr W) => pcontains_nz W _ (List.replicate 512 0) _ (hxs.kept q (fun x hx hj => by have hx : w.heap.size ≤ x := hx; have hj : x = b := hj; have := HP.out.lt; omega)) (by simp)
      have hnone : decide (0 ≤ nzAt (List.replicate 512 0) 0) = false := by rw [nzAt_none _ _ (fun x hx => (List.mem_replicate.1 hx).2)]; rfl
      rw [hnone] at hC
      have HC := Lib.hid hC
      clear hxs hC hnone hlt hj
      go_wp2_with (first
        | (go_at_call 65; refine (HC.out _ (kept1 wr b 7 _)).mono ?_; rintro e w' ⟨rfl, rfl⟩)
        | (go_at_call 67; refine (page_new _ 0 k (by omega) (by omega) (by omega) (by omega)).mono ?_; rintro e w6 ⟨rfl, hp6, hk6⟩))
      go_ret2
      have k7 := kept1 wr b 7 (.int .i64 ((P.reads : Int) + 1))
      have hs := HK.out.size
      have kw : Kept (Just b) w (wr.setCell ⟨b, 7, none⟩ (.int .i64 ((P.reads : Int) + 1))) := HK.out.nob.trans' k7
      rw [set_size] at hp6
      have hnew := HPr.out.turn (P' := { P with reads := P.reads + 1 }) k7 rfl (heap_set wr b 7 _ _ (.int .i64 ((P.reads : Int) + 1)) HPr.out.head)
      exact ⟨_, rfl, hs, hp6, hnew.nob hk6, kw.then hk6⟩
end Go.Proofs.YthppgchmamonnaaGreatDoor
