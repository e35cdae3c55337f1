/- Disk: New. -/
import Derived.Test.YthppgchmamonnaaGreatDoorPgDisk4
import Derived.Deep.RegionLaw
namespace Go.Proofs.YthppgchmamonnaaGreatDoor
open Go.RowKit

/-- what New's loop keeps -/
def NewRel (w : World) (k : Nat) (wr : World) : Prop :=
  ∃ b cap, wr.heap[w.heap.size]? = some (.cells #[.slice b k cap, .slice none 0 0, .slice none 0 0, .int .i64 0, .bool false, .int .i64 0, .bool false] 72 (0, 0)) ∧
    OwnRows wr 50 5 (.slice b k cap) (List.replicate k Dsk.zeroSector) (From w.heap.size) ∧ Kept Nob w wr

def zero64 : Array Value := Array.replicate 64 (.int .u8 0)
theorem zero64_list : zero64.toList = Dsk.zeroSector := rfl

theorem make64 (w : World) : (Instr.makeSlice 50 (.int .i64 64) (.int .i64 64)).run Tryz.prog w = .ok (.slice (some ⟨w.heap.size, 0, none⟩) 64 64) (w.alloc (.cells zero64 5)) := by kernel_rfl

theorem own_zero64 (w : World) : Own (w.alloc (.cells zero64 5)) 5 (.slice (some ⟨w.heap.size, 0, none⟩) 64 64) Dsk.zeroSector (From w.heap.size) :=
  ⟨⟨rfl, .inr ⟨w.heap.size, 64, zero64, rfl, Nat.zero_le _, heap_alloc_new w _, Nat.le_refl _, by unfold maxLen; omega, rfl, rfl⟩⟩, fun g hg => by simp [Value.ownBlock] at hg; simp [From]; omega⟩

theorem disk_new_bad (w : World) (n : Int) (hn : n < 1 ∨ 8192 < n) :
    Calls Tryz.prog 10 #[.int .i64 n] w fun e w' => ∃ g, e = .returned (.tuple #[.pointer none, .iface 81 (.pointer (some ⟨g, 0, none⟩))]) ∧ FaultAt w' (.iface 81 (.pointer (some ⟨g, 0, none⟩))) opNew n 1 (From w.heap.size) ∧ Kept Nob w w' := by
  have HC := fun w => Lib.hid (fault_new w opNew n 1)
  unfold opNew at HC
  by_cases h1 : n < 1
  · clear hn
    go_enter Tryz.func10, Tryz.ntmps10
    go_wp2_with (go_at_call 31; refine (HC _).out.mono ?_; rintro e w1 ⟨g1, rfl, ho1, hk1⟩)
    go_ret2
    exact ⟨g1, rfl, ho1, hk1⟩
  · have h2 : 8192 < n := by omega
    clear hn
    go_enter Tryz.func10, Tryz.ntmps10
    go_wp2_with (go_at_call 31; refine (HC _).out.mono ?_; rintro e w1 ⟨g1, rfl, ho1, hk1⟩)
    go_ret2
    exact ⟨g1, rfl, ho1, hk1⟩

/-- one sector more -/
theorem NewRel.step {w wr w2 : World} {k : Nat} {b : Option Addr} {cap : Nat} {vs : List Value} {g2 cap2 : Nat}
    (hb : wr.heap[w.heap.size]? = some (.cells #[.slice b k cap, .slice none 0 0, .slice none 0 0, .int .i64 0, .bool false, .int .i64 0, .bool false] 72 (0, 0)))
    (hrow : Own wr 50 (.slice b k cap) vs (From w.heap.size)) (hrows : RowsAt wr 5 vs (List.replicate k Dsk.zeroSector) (From w.heap.size)) (hk : Kept Nob w wr)
    (ho2 : Own w2 50 (.slice (some ⟨g2, 0, none⟩) (vs.length + 1) cap2) (vs ++ [.slice (some ⟨wr.heap.size, 0, none⟩) 64 64])
      (fun j => (Value.slice b k cap).ownBlock = some j ∨ ((wr.alloc (.cells zero64 5)).alloc (.cells #[.slice (some ⟨wr.heap.size, 0, none⟩) 64 64] 50)).drew.heap.size ≤ j))
    (hk2 : Kept (fun j => (Value.slice b k cap).ownBlock = some j) ((wr.alloc (.cells zero64 5)).alloc (.cells #[.slice (some ⟨wr.heap.size, 0, none⟩) 64 64] 50)).drew w2) :
    w2.cell? ⟨w.heap.size, 0, none⟩ = some (.slice b k cap) ∧ w2.frozen? ⟨w.heap.size, 0, none⟩ = false ∧ w.heap.size ≠ g2 ∧
    NewRel w (k + 1) (w2.setCell ⟨w.heap.size, 0, none⟩ (.slice (some ⟨g2, 0, none⟩) (vs.length + 1) cap2)) := by
  have hvl : vs.length = k := by rw [hrows.len]; simp
  have hlt : w.heap.size < wr.heap.size := (Array.getElem?_eq_some_iff.1 hb).1
  have hka : Kept Nob wr ((wr.alloc (.cells zero64 5)).alloc (.cells #[.slice (some ⟨wr.heap.size, 0, none⟩) 64 64] 50)).drew :=
    ((Kept.alloc Nob _ _).trans' (Kept.alloc Nob _ _)).trans' (Kept.drew Nob _)
  have hbo : (Value.slice b k cap).ownBlock ≠ some w.heap.size := hrow.not_in hb (by decide)
  have hk12 : Kept (fun j => (Value.slice b k cap).ownBlock = some j) wr w2 := hka.nob.trans' hk2
  have hb2 : w2.heap[w.heap.size]? = _ := (hk12.block _ hlt hbo).trans hb
  have hks := kept1 w2 w.heap.size 0 (.slice (some ⟨g2, 0, none⟩) (vs.length + 1) cap2)
  have hsz : wr.heap.size + 2 ≤ w2.heap.size := by have := hk2.size; simpa using this
  have hgo : Own w2 50 (.slice (some ⟨g2, 0, none⟩) (vs.length + 1) cap2) (vs ++ [.slice (some ⟨wr.heap.size, 0, none⟩) 64 64]) (From w.heap.size) := ho2.mono fun j _ h => by
    rcases h with h | h
    · exact hrow.2 j h
    · simp at h; simp [From]; omega
  have hzero : Own w2 5 (.slice (some ⟨wr.heap.size, 0, none⟩) 64 64) Dsk.zeroSector (From w.heap.size) := by
    have h1 := (((own_zero64 wr).alloc (.cells #[.slice (some ⟨wr.heap.size, 0, none⟩) 64 64] 50)).drew).keptT hk2 (fun j hj => by
      intro h
      simp [Value.ownBlock] at h
      have := hrow.blockLt hj
      omega)
    exact h1.mono (fun j _ hj => Nat.le_trans (Nat.le_of_lt hlt) hj)
  have hne2 : w.heap.size ≠ g2 := fun e => by
    have := hgo.not_in hb2 (by decide)
    rw [e] at this
    exact this rfl
  refine ⟨cell_at hb2 0 _ rfl, frozen_at hb2 0, hne2, some ⟨g2, 0, none⟩, cap2, ?_, ?_, ?_⟩
  · rw [← hvl]
    exact (heap_set w2 _ 0 _ _ _ hb2)
  · rw [← hvl]
    refine ⟨_, hgo.keptT hks (fun j hj => by rw [show j = w.heap.size from hj]; exact hgo.not_in hb2 (by decide)), ?_⟩
    have q : RowsAt w2 5 (vs ++ [.slice (some ⟨wr.heap.size, 0, none⟩) 64 64]) (List.replicate (vs.length + 1) Dsk.zeroSector) (From w.heap.size) := by
      rw [List.replicate_succ', hvl]
      refine RowsAt.snoc ⟨hrows.len, fun i u y a c => (hrows.own i u y a c).keptT hk12 (fun j hj => ?_), hrows.apart⟩ hzero fun i u j hu hj hj' => ?_
      · obtain ⟨cur, hc⟩ := hrow.blockIs hj
        exact (hrows.own i u y a c).not_in hc (by decide)
      · simp [Value.ownBlock] at hj'
        have hil : i < (List.replicate k Dsk.zeroSector).length := by rw [← hrows.len]; exact (List.getElem?_eq_some_iff.1 hu).1
        have := (hrows.own i u _ hu (List.getElem?_eq_getElem hil)).blockLt hj
        omega
    exact ⟨q.len, fun i u y a c => (q.own i u y a c).keptT hks (fun j hj => by rw [show j = w.heap.size from hj]; exact (q.own i u y a c).not_in hb2 (by decide)), q.apart⟩
  · have h1 : Kept (From w.heap.size) wr w2 := hk12.mono (fun j _ hj => hrow.2 j hj)
    have h2 : Kept (From w.heap.size) wr (w2.setCell ⟨w.heap.size, 0, none⟩ (.slice (some ⟨g2, 0, none⟩) (vs.length + 1) cap2)) := h1.trans' (hks.mono (fun j _ hj => by rw [show j = w.heap.size from hj]; exact Nat.le_refl _))
    exact hk.from (Nat.le_refl _) h2

/-- the disk is made -/
theorem NewRel.done {w wr w1 : World} {n : Nat} (h1 : 1 ≤ n) (h2 : n ≤ 8192) {b b1 : Option Addr} {cap cap1 : Nat}
    (hb : wr.heap[w.heap.size]? = some (.cells #[.slice b n cap, .slice none 0 0, .slice none 0 0, .int .i64 0, .bool false, .int .i64 0, .bool false] 72 (0, 0)))
    (hr : OwnRows wr 50 5 (.slice b n cap) (List.replicate n Dsk.zeroSector) (From w.heap.size)) (hk : Kept Nob w wr)
    (ho1 : OwnRows w1 50 5 (.slice b1 (List.replicate n Dsk.zeroSector).length cap1) (List.replicate n Dsk.zeroSector) (From wr.heap.size)) (hk1 : Kept Nob wr w1) :
    w1.cell? ⟨w.heap.size, 1, none⟩ = some (.slice none 0 0) ∧ w1.frozen? ⟨w.heap.size, 1, none⟩ = false ∧
    DiskAt (w1.setCell ⟨w.heap.size, 1, none⟩ (.slice b1 (List.replicate n Dsk.zeroSector).length cap1)) w.heap.size (Dsk.fresh n) (fun k => w.heap.size ≤ k ∧ k < (w1.setCell ⟨w.heap.size, 1, none⟩ (.slice b1 (List.replicate n Dsk.zeroSector).length cap1)).heap.size) ∧
    Kept Nob w (w1.setCell ⟨w.heap.size, 1, none⟩ (.slice b1 (List.replicate n Dsk.zeroSector).length cap1)) := by
  have hlt : w.heap.size < wr.heap.size := (Array.getElem?_eq_some_iff.1 hb).1
  have hb1 : w1.heap[w.heap.size]? = _ := (hk1.block _ hlt (fun f => f)).trans hb
  have hks := kept1 w1 w.heap.size 1 (.slice b1 (List.replicate n Dsk.zeroSector).length cap1)
  have hsz : (w1.setCell ⟨w.heap.size, 1, none⟩ (.slice b1 (List.replicate n Dsk.zeroSector).length cap1)).heap.size = w1.heap.size := by simp [World.setCell]
  have hd : ∀ j, Just w.heap.size j → ∃ cs e' fz, w1.heap[j]? = some (.cells cs e' fz) ∧ e' ≠ 50 ∧ e' ≠ 5 := fun j hj => by
    rw [show j = w.heap.size from hj]; exact ⟨_, _, _, hb1, by decide, by decide⟩
  refine ⟨cell_at hb1 1 _ rfl, frozen_at hb1 1, ?_, ?_⟩
  · rw [hsz]
    refine ⟨_, _, _, heap_set w1 _ 1 _ _ _ hb1, ⟨Nat.le_refl _, Nat.lt_of_lt_of_le hlt hk1.size⟩, ?_, ?_, Own.nil _ _ _, ?_, Dsk.Wf.fresh h1 h2, fun k hk => hsz ▸ hk.2⟩
    · exact (((hr.kept hk1 (fun _ _ f => f)).keptT hks hd).mono fun k hk h => ⟨h, hsz ▸ hk⟩)
    · exact ((ho1.keptT hks hd).mono fun k hk h => ⟨Nat.le_trans (Nat.le_of_lt hlt) h, hsz ▸ hk⟩)
    · intro g hg hg'
      obtain ⟨vs, hv, _⟩ := hr
      obtain ⟨us, hu, _⟩ := ho1
      have := hv.blockLt hg
      have h3 : wr.heap.size ≤ g := hu.2 g hg'
      omega
  · have h3 : Kept (From w.heap.size) wr (w1.setCell ⟨w.heap.size, 1, none⟩ (.slice b1 (List.replicate n Dsk.zeroSector).length cap1)) := hk1.nob.trans' (hks.mono (fun j _ hj => by rw [show j = w.heap.size from hj]; exact Nat.le_refl _))
    exact hk.from (Nat.le_refl _) h3

/-- behind a New that is done -/
def RetNew (w : World) (n : Nat) (en : Ending) (w' : World) : Prop :=
  ∃ b, en = .returned (.tuple #[.pointer (some ⟨b, 0, none⟩), .nilIface]) ∧ DiskAt w' b (Dsk.fresh n) (fun k => w.heap.size ≤ k ∧ k < w'.heap.size) ∧ Kept Nob w w'

set_option maxHeartbeats 1000000 in
theorem disk_new (w : World) (n : Nat) (h1 : 1 ≤ n) (h2 : n ≤ 8192) :
    Calls Tryz.prog 10 #[.int .i64 n] w (RetNew w n) := by
  have hmk := make64
  go_enter Tryz.func10, Tryz.ntmps10
  go_wp2
  go_loopw [17] (fun i wr => ∃ k : Nat, k ≤ n ∧ i = .int .i64 k ∧ NewRel w k wr) (fun i _ => n - (intOf i).toNat)
  case atStart => exact ⟨0, Nat.zero_le _, rfl, none, 0, heap_alloc_new w _, ⟨[], Own.nil _ _ _, RowsAt.nil _ _ _⟩, Kept.alloc _ _ _⟩
  case round =>
    obtain ⟨k, hk, rfl, b, cap, hb, ⟨vs, hrow, hrows⟩, hw⟩ := hrel
    by_cases hlt : k < n
    · have c0 := cell_at hb 0 _ rfl
      have hvl := Lib.hid (show vs.length = k by rw [hrows.len]; simp)
      have hsz : w.heap.size < wr.heap.size := (Array.getElem?_eq_some_iff.1 hb).1
      have HST := fun g2 cap2 w2 h1 h2 => Lib.hid (NewRel.step (g2 := g2) (cap2 := cap2) (w2 := w2) hb hrow hrows hw h1 h2)
      have HO := Lib.hid hrow
      clear hb hrow hrows hw
      go_wp2_with fail
      go_region_law ((refine step_append1_pg rfl _ _ 70 rfl tRows (.slice b k cap) vs (.slice (some ⟨wr.heap.size, 0, none⟩) 64 64) (From w.heap.size) ⟨wr.heap.size + 1, 0, none⟩ 1 rfl rfl ((HO.out.alloc _).alloc _).drew (by simp) rfl (Nat.le_refl _) rfl (by have := hvl.out; omega) ?_; intro g2 cap2 w2 ho2 hk2; have HQ := HST g2 cap2 w2 ho2 hk2; have q1 := HQ.out.1; have q2 := HQ.out.2.1))
      all_goals
        go_wp2
        go_roundw
        case rel => exact ⟨k + 1, by omega, by go_num, HQ.out.2.2.2⟩
        case measure => simp [intOf]; omega
    · obtain rfl : k = n := by omega
      have c0 := cell_at hb 0 _ rfl
      have hsz : w.heap.size < wr.heap.size := (Array.getElem?_eq_some_iff.1 hb).1
      have hrr : OwnRows wr 50 5 (.slice b k cap) (List.replicate k Dsk.zeroSector) (From w.heap.size) := ⟨vs, hrow, hrows⟩
      have hzs : ∀ x ∈ List.replicate k Dsk.zeroSector, x.length = 64 ∧ ∀ u ∈ x, IsByte u := (Dsk.Wf.fresh h1 h2).good
      have hcp := copied_any wr (.slice b k cap) (List.replicate k Dsk.zeroSector) _ hrr (by simp; omega) (fun x hx => ⟨by have := (hzs x hx).1; omega, (hzs x hx).2⟩)
      have HC := Lib.hid hcp
      have HB := Lib.hid hb
      have HW := Lib.hid hw
      have HR := Lib.hid hrr
      have HST := fun b1 cap1 w1 h1' h2' => Lib.hid (NewRel.done (b1 := b1) (cap1 := cap1) (w1 := w1) h1 h2 hb hrr hw h1' h2')
      clear hb hrow hrows hw hrr hzs hcp
      go_wp2_with (go_at_call 32; refine HC.out.mono ?_; rintro e w1 ⟨b1, cap1, rfl, ho1, hk1⟩; have HQ := HST b1 cap1 w1 ho1 hk1; have q1 := HQ.out.1; have q2 := HQ.out.2.1)
      go_ret2
      have HQ' := HQ.out
      simp only [List.length_replicate] at HQ'
      exact ⟨_, rfl, HQ'.2.2.1, HQ'.2.2.2⟩
end Go.Proofs.YthppgchmamonnaaGreatDoor
