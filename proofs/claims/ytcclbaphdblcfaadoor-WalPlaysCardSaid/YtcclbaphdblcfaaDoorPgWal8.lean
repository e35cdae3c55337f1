/- The log: Open; First, Len, Dead, Read. -/
import Derived.Test.YtcclbaphdblcfaaDoorPgWal7
import Derived.Test.YtcclbaphdblcfaaDoorPgIs
namespace Go.Proofs.YtcclbaphdblcfaaDoor
open Go.RowKit

def opWal : ByteArray := ⟨#[119, 97, 108]⟩

theorem log_first (w : World) (b bd : Nat) (L : Wal.Lg) (R : Nat → Prop) (h : LogAt w b bd L R) :
    Calls Tryd.prog 26 #[.pointer (some ⟨b, 0, none⟩)] w fun e w' => e = .returned (.int .i64 L.first) ∧ w = w' := by
  obtain ⟨rv, vs, hb, -, -, -, -⟩ := h
  have c5 := cell_at hb 5 _ rfl
  clear hb
  go_enter Tryd.func26, Tryd.ntmps26
  go_wp2
  go_ret
  exact ⟨rfl, rfl⟩
theorem log_first_nil (w : World) :
    Calls Tryd.prog 26 #[.pointer none] w fun e w' => e = .returned (.int .i64 0) ∧ w = w' := by
  go_enter Tryd.func26, Tryd.ntmps26
  go_wp2
  go_ret
  exact ⟨rfl, rfl⟩
theorem log_dead (w : World) (b bd : Nat) (L : Wal.Lg) (R : Nat → Prop) (h : LogAt w b bd L R) :
    Calls Tryd.prog 20 #[.pointer (some ⟨b, 0, none⟩)] w fun e w' => e = .returned (.bool false) ∧ w = w' := by
  obtain ⟨rv, vs, hb, -, -, -, -⟩ := h
  have c0 := cell_at hb 0 _ rfl
  have c8 := cell_at hb 8 _ rfl
  clear hb
  go_enter Tryd.func20, Tryd.ntmps20
  go_wp2
  go_ret
  exact ⟨rfl, rfl⟩
theorem log_dead_nil (w : World) :
    Calls Tryd.prog 20 #[.pointer none] w fun e w' => e = .returned (.bool true) ∧ w = w' := by
  go_enter Tryd.func20, Tryd.ntmps20
  go_wp2
  go_ret
  exact ⟨rfl, rfl⟩
theorem log_len (w : World) (b bd : Nat) (L : Wal.Lg) (R : Nat → Prop) (h : LogAt w b bd L R) (hs : L.first + L.recs.length ≤ 1000000000) :
    Calls Tryd.prog 25 #[.pointer (some ⟨b, 0, none⟩)] w fun e w' => e = .returned (.int .i64 ((L.first : Int) + (L.recs.length : Int))) ∧ ∃ n, w' = w.drewN n := by
  obtain ⟨rv, vs, hb, -, hr, hv, -⟩ := h
  obtain ⟨ra, rc, rfl, -⟩ := hr.shape
  rw [hv.1] at hb
  have c5 := cell_at hb 5 _ rfl
  have c7 := cell_at hb 7 _ rfl
  clear hb hr hv
  go_enter Tryd.func25, Tryd.ntmps25
  go_wp2_with fail
  go_quiet (fail)
  go_wp2_with fail
  go_ret
  exact ⟨rfl, nq, rfl⟩
theorem log_len_nil (w : World) :
    Calls Tryd.prog 25 #[.pointer none] w fun e w' => e = .returned (.int .i64 0) ∧ w = w' := by
  go_enter Tryd.func25, Tryd.ntmps25
  go_wp2
  go_ret
  exact ⟨rfl, rfl⟩

/-- read, of a log that is just made -/
theorem read_any (w : World) (b bd : Nat) (d : Dsk) (F : Nat → Prop) (L : Wal.Lg)
    (hb : w.heap[b]? = some (.cells #[.pointer (some ⟨bd, 0, none⟩), .int .i64 L.frm, .int .i64 L.half, .int .i64 0, .int .i64 0, .int .i64 0, .int .i64 0, .slice none 0 0, .bool false] 70 (0, 0))) (hD : DiskAt w bd d F) (hbF : ¬ F b) (hL : Wal.On d.now L) :
    Calls Tryd.prog 32 #[.pointer (some ⟨b, 0, none⟩)] w fun e w' => e = .returned (.bool true) ∧ (∃ R, LogAt w' b bd L R ∧ ∀ j, R j → w.heap.size ≤ j) ∧ Kept (Just b) w w' := by
  rcases hL.mark with hm | ⟨hz, z1, z2, z3, z4⟩
  · exact read_mark w b bd L.frm L.half d F _ _ _ _ _ hb hD hbF L hL rfl rfl hm
  · have hn : d.now.length = d.good.length := hD.wf.len
    have hroom := hL.fits.room
    have hrec : L.recs = [] := by
      obtain ⟨dead, -, -, -, h4⟩ := hL.body
      rw [z4] at h4
      have := Wal.weight_two (dead ++ L.recs)
      have h5 : (dead ++ L.recs).length = 0 := by omega
      rw [List.length_append] at h5
      exact List.eq_nil_of_length_eq_zero (by omega)
    refine (read_fresh w b bd L.frm L.half d F ⟨cell_at hb 0 _ rfl, cell_at hb 1 _ rfl, cell_at hb 2 _ rfl⟩ hD (by omega) hz).mono fun e w' ⟨h1, h2⟩ => ⟨h1, ⟨fun _ => False, ⟨.slice none 0 0, [], ?_, fun h => h, .inl ⟨rfl, none, 0, rfl, fun _ => rfl⟩, ?_, fun j h => h.elim⟩, fun j h => h.elim⟩, h2.nob⟩
    · rw [z1, z2, z3, z4]
      exact (h2.block b (Array.getElem?_eq_some_iff.1 hb).1 (fun f => f)).trans hb
    · rw [hrec]; exact ReadRows.nil _ _

/-- behind an Open that is done -/
def RetOpen (w : World) (bd : Nat) (d : Dsk) (F : Nat → Prop) (L : Wal.Lg) (en : Ending) (w' : World) : Prop :=
  ∃ b R F', en = .returned (.tuple #[.pointer (some ⟨b, 0, none⟩), .nilIface]) ∧ LogAt w' b bd L R ∧ DiskAt w' bd d F' ∧ Grows F w.heap.size F' ∧ (∀ j, R j → w.heap.size ≤ j) ∧ w.heap.size ≤ b ∧ ¬ F' b ∧ Disj R F' ∧ Kept F w w'

set_option maxRecDepth 100000 in
set_option maxHeartbeats 4000000 in
theorem log_open (w : World) (bd : Nat) (d : Dsk) (F : Nat → Prop) (hD : DiskAt w bd d F) (hl : Wal.Live d) (hops : d.ops < 9223372036854775807) (frm til : Nat) (h1 : frm + 16 ≤ til) (h2 : til ≤ d.good.length) (L : Wal.Lg) (hL : Wal.On d.now L) (hfr : L.frm = frm) (hha : L.half = (til - frm - 1) / 2) :
    Calls Tryd.prog 12 #[.pointer (some ⟨bd, 0, none⟩), .int .i64 frm, .int .i64 til] w (RetOpen w bd d.sync.1 F L) := by
  subst hfr
  have HLen := Lib.hid (disk_len w bd d F hD)
  have HD := Lib.hid hD
  have HL := Lib.hid hL
  have HLv := Lib.hid hl
  have HHa := Lib.hid hha
  have hm := hD.wf.most
  have t1 : decide ((til : Int) < 16) = false := by simp; omega
  have t2 : decide (d.good.length < til) = false := by simp; omega
  have t3 : decide ((til : Int) - 16 < (L.frm : Int)) = false := by simp; omega
  have HU := Lib.hid hD.under
  clear hD hL hl hha
  go_enter Tryd.func12, Tryd.ntmps12
  go_wp2_with (go_at_call 31; refine HLen.out.mono ?_; rintro e w' ⟨rfl, rfl⟩)
  have eh : ((til : Int) - (L.frm : Int) - 1) / 2 = (L.half : Int) := by rw [HHa.out]; omega
  rw [eh]
  clear eh
  have ka := Kept.alloc Nob w (.cells #[.pointer (some ⟨bd, 0, none⟩), .int .i64 L.frm, .int .i64 L.half, .int .i64 0, .int .i64 0, .int .i64 0, .int .i64 0, .slice none 0 0, .bool false] 70)
  refine (read_any _ w.heap.size bd d F L (heap_alloc_new w _) (HD.out.kept ka (fun _ _ f => f)) (fun h => absurd (HU.out _ h) (Nat.lt_irrefl _)) HL.out).mono ?_
  rintro e w3 ⟨rfl, ⟨R, hLg, hR⟩, hk3⟩
  have k3 := ka.trans hk3 (fun j hj h => by rw [show j = w.heap.size from h] at hj; exact absurd hj (Nat.lt_irrefl _))
  have HK3 := Lib.hid k3
  have HLg := Lib.hid hLg
  have HR := Lib.hid hR
  have HD3 := Lib.hid (HD.out.kept k3 (fun _ _ f => f))
  clear ka hLg hR hk3 k3
  go_wp2_with fail
  refine (disk_sync w3 bd d F HD3.out hops HLv.out.goes).mono ?_
  rintro e w4 ⟨rfl, F4, hD4, hg4, hk4⟩
  have HD4 := Lib.hid hD4
  have HG4 := Lib.hid hg4
  have HK4 := Lib.hid hk4
  clear hD4 hg4 hk4
  go_wp2_with fail
  go_ret2
  have hs3 := HK3.out.size
  have hu3 := HLg.out.under
  have hlb := HLg.out.lt
  refine ⟨w.heap.size, R, F4, rfl, HLg.out.kept HK4.out (fun h => absurd (HU.out _ h) (Nat.lt_irrefl _)) (fun j hj h => ?_), HD4.out, fun j hj => ?_, fun j hj => ?_, Nat.le_refl _, fun h => ?_, fun j hj h => ?_, (HK3.out.nob).trans' HK4.out⟩
  · have := HR.out j hj; simp at this; have := HU.out j h; omega
  · rcases HG4.out j hj with q | q
    · exact .inl q
    · exact .inr (by omega)
  · have := HR.out j hj; simp at this; omega
  · rcases HG4.out _ h with q | q
    · exact absurd (HU.out _ q) (Nat.lt_irrefl _)
    · omega
  · rcases HG4.out j h with q | q
    · have := HR.out j hj; simp at this; have := HU.out j q; omega
    · have := hu3 j hj; omega
end Go.Proofs.YtcclbaphdblcfaaDoor
