/- The laws of the log: a log that lies on its disk, and beside it what it should tell. -/
import Derived.Test.YtcclbaphdblcfaaDoorPgWal25
namespace Go.Proofs.YtcclbaphdblcfaaDoor
open Go.RowKit

/-- A log lies on its disk; beside it what it should tell. -/
structure Lie (w0 w : World) (bd m : Nat) (d : Dsk) (L : Wal.Lg) (F X : Nat → Prop) (first : Nat) (all : List (List Value)) (N : Nat) : Prop where
  disk : DiskAt w bd d F
  live : Wal.Live d
  calm : d.order = []
  on : Wal.On d.now L
  newF : ∀ x, F x → w0.heap.size ≤ x
  kept : Kept Nob w0 w
  ops : d.ops ≤ N
  x : XAt w m first all X
  xF : Disj X F
  mF : ¬ F m
  newX : ∀ x, X x → w0.heap.size ≤ x
  newM : w0.heap.size ≤ m
  recs : ∀ r ∈ all, Wal.Rec r
section
variable {w0 w w' : World} {b bd m : Nat} {d : Dsk} {L L' : Wal.Lg} {F R X : Nat → Prop} {first : Nat} {all : List (List Value)} {N : Nat}
theorem Lie.start {n frm half : Nat} (hD : DiskAt w bd (Dsk.fresh n) F) (hk : Kept Nob w0 w) (hF : ∀ x, F x → w0.heap.size ≤ x) (hon : Wal.On (Dsk.fresh n).now (Wal.Lg.none frm half)) :
    Lie w0 (w.alloc (.cells #[.int .i64 0, .slice none 0 0] 36)) bd w.heap.size (Dsk.fresh n) (Wal.Lg.none frm half) F (fun _ => False) 0 [] 0 :=
  ⟨hD.kept (Kept.alloc Nob w _) (fun _ _ f => f), Wal.Live.fresh n, rfl, hon, hF, hk.then (Kept.alloc Nob w _), by simp [Dsk.fresh], XAt.new w, fun _ h => h.elim, fun q => absurd (hD.under _ q) (Nat.lt_irrefl _), fun _ q => q.elim, hk.size, fun r q => by cases q⟩
theorem Lie.opened {en : Ending} (h : Lie w0 w bd m d L F X first all N) (hop : RetOpen w bd d.sync.1 F L en w') :
    ∃ b F' R, en = .returned (.tuple #[.pointer (some ⟨b, 0, none⟩), .nilIface]) ∧ Duo w0 w' b bd m d.sync.1 L F' R X first all (N + 1) ∧ d.sync.1.now = d.now := by
  obtain ⟨b, R, F', rfl, h1, h2, h3, h4, h5, h6, h7, h8⟩ := hop
  have hs := h.kept.size
  have hsy := Wal.sync_now h.live
  refine ⟨b, F', R, rfl, ⟨⟨h2, h1, h6, h7, h.live.sync, hsy.2.1, by rw [hsy.1]; exact h.on, fun x hx => ?_, fun x hx => Nat.le_trans hs (h4 x hx), by omega, h.kept.trans h8 (fun x hx g => ?_), by rw [hsy.2.2]; have := h.ops; omega⟩, h.x.kept h8 h.mF h.xF, fun x hx f => ?_, fun x hx f => ?_, fun f => ?_, fun f => ?_, fun f => ?_, ?_, h.newX, h.newM, h.recs⟩, hsy.1⟩
  · rcases h3 x hx with q | q
    · exact h.newF x q
    · omega
  · have := h.newF x g; omega
  · rcases h3 x f with q | q
    · exact h.xF x hx q
    · have := h.x.under x hx; omega
  · have := h4 x f; have := h.x.under x hx; omega
  · have := h4 m f; have := h.x.lt; omega
  · have := h.x.under b f; omega
  · rcases h3 m f with q | q
    · exact h.mF q
    · have := h.x.lt; omega
  · have := h.x.lt; omega
/-- behind a crash it lies there as it was -/
theorem Duo.crash (h : Duo w0 w b bd m d L F R X first all N) (kv : Value) (keep : List Bool) (G : Nat → Prop) (hkeep : Reads w kv (keep.map Value.bool) G) (hkl : keep.length < 1000000000) (torn : Int) :
    Calls Tryd.prog 27 #[.pointer (some ⟨bd, 0, none⟩), kv, .int .i64 torn] w fun e w' => ∃ bd', e = .returned (.pointer (some ⟨bd', 0, none⟩)) ∧ Lie w0 w' bd' m (d.crash keep torn) L (fun x => w.heap.size ≤ x ∧ x < w'.heap.size) X first all 0 ∧ Kept Nob w w' ∧ (d.crash keep torn).now.length = d.now.length := by
  refine (disk_crash w bd d F h.up.disk kv keep G hkeep hkl torn).mono fun e w' ⟨bd', he, hD, hk⟩ => ?_
  obtain ⟨c1, c2, c3, c4⟩ := crash_on h.up.disk.wf h.up.calm keep torn h.up.on
  have hs := h.up.kept.size
  refine ⟨bd', he, ⟨hD, Wal.Live.crash d keep torn, c4, c1, fun x q => by omega, h.up.kept.then hk, by omega, h.x.kept hk (fun f => f) (fun _ _ f => f), fun x q f => ?_, fun q => ?_, h.newX, h.newM, h.recs⟩, hk, c3⟩
  · have := h.x.under x q; omega
  · have := h.x.lt; omega
end
end Go.Proofs.YtcclbaphdblcfaaDoor
