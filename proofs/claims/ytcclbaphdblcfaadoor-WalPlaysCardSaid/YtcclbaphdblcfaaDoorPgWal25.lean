/- The laws of the log: Open from the first sector on, behind a crash; what a log should tell, made of rows. -/
import Derived.Test.YtcclbaphdblcfaaDoorPgWal23
import Derived.Test.YtcclbaphdblcfaaDoorPgDisk6
namespace Go.Proofs.YtcclbaphdblcfaaDoor
open Go.RowKit

theorem log_open0 (w : World) (bd : Nat) (d : Dsk) (F : Nat → Prop) (hD : DiskAt w bd d F) (hl : Wal.Live d) (hops : d.ops < 9223372036854775807) (til : Nat) (h1 : 16 ≤ til) (h2 : til ≤ d.good.length) (L : Wal.Lg) (hL : Wal.On d.now L) (hfr : L.frm = 0) (hha : L.half = (til - 1) / 2) :
    Calls Tryd.prog 12 #[.pointer (some ⟨bd, 0, none⟩), .int .i64 0, .int .i64 til] w (RetOpen w bd d.sync.1 F L) :=
  log_open w bd d F hD hl hops 0 til (by omega) h2 L hL hfr (by rw [hha]; rfl)
/-- a crash of a disk on which nothing waits -/
theorem crash_on {d : Dsk} (hd : d.Wf) (ho : d.order = []) (keep : List Bool) (torn : Int) {L : Wal.Lg} (h : Wal.On d.now L) : Wal.On (d.crash keep torn).now L ∧ (d.crash keep torn).ops = 0 ∧ (d.crash keep torn).now.length = d.now.length ∧ (d.crash keep torn).order = [] := by
  obtain ⟨h1, h2, h3⟩ := Wal.crash_calm hd ho keep torn
  exact ⟨by rw [h1]; exact h, h3, by rw [h1], h2⟩
theorem XAt.made {w : World} {v : Value} {rs : List (List Value)} {F : Nat → Prop} (h : OwnRows w 47 5 v rs F) : XAt (w.alloc (.cells #[.int .i64 0, v] 36)) w.heap.size 0 rs (fun x => F x ∧ x < w.heap.size) := by
  obtain ⟨vs, h1, h2⟩ := h.apart
  refine ⟨v, vs, fun x => v.ownBlock ≠ some x, heap_alloc_new w _, (h1.mono fun x hx q => ⟨⟨q.1, hx⟩, q.2⟩).alloc _, (h2.mono fun x hx q => ⟨⟨q.1, hx⟩, q.2⟩).kept (Kept.alloc Nob w _) (fun _ _ f => f), fun q => absurd q.2 (Nat.lt_irrefl _), fun x q => ?_⟩
  have := q.2
  simp; omega
theorem recRows_rec (frm n size : Nat) (h : size ≤ 1200) : ∀ r ∈ recRows frm n size, Wal.Rec r ∧ r.length = size := fun r hr => by
  simp only [recRows, List.mem_map] at hr
  obtain ⟨i, -, rfl⟩ := hr
  exact ⟨⟨by rw [blockRow_length]; exact h, blockRow_bytes _ _⟩, blockRow_length _ _⟩
/-- Append of rows, by a log that stands alone -/
theorem Up.append {w0 w : World} {b bd : Nat} {d : Dsk} {L : Wal.Lg} {F R : Nat → Prop} {N : Nat} (h : Up w0 w b bd d L F R N) (hN : N ≤ 1000000000000) {v : Value} {us : List Value} {rs : List (List Value)} {G : Nat → Prop} (hv : Reads w v us G) (hr : ReadRows w us rs G) (hrs : ∀ r ∈ rs, Wal.Rec r) (h0 : 0 < rs.length) (h40 : rs.length ≤ 40) (hsm : L.first + L.recs.length + rs.length ≤ 1000000000) (hmay : L.may rs = true) :
    Calls Tryd.prog 15 #[.pointer (some ⟨b, 0, none⟩), v] w fun e w' => e = .returned (.tuple #[.int .i64 ((L.first + L.recs.length : Nat) : Int), .nilIface]) ∧ ∃ d' F' R', Up w0 w' b bd d' (L.grow rs) F' R' (N + 20000) ∧ Kept (Por F (Just b)) w w' ∧ Grows F w.heap.size F' ∧ Grows R w.heap.size R' ∧ Stood d d' L (L.grow rs) := by
  refine (log_append w b bd L R d F h.log h.on h.disk h.bF h.live (by have := h.ops; omega) h.apart v us rs G hv hr hrs h0 h40 hsm).mono fun e w' q => ?_
  obtain ⟨he, hto⟩ := q.1 hmay
  exact ⟨he, h.steps hto⟩
end Go.Proofs.YtcclbaphdblcfaaDoor
