/- The log: what a load leaves. -/
import Derived.Test.YtcclbaphdblcfaaDoorPgWal6
namespace Go.Proofs.YtcclbaphdblcfaaDoor
open Go.RowKit

/-- the struct behind five stores -/
theorem heap5 (w : World) (b : Nat) (a0 a1 a2 a3 a4 a5 a6 a7 a8 v3 v4 v5 v6 v7 : Value) (e : TypeId) (hb : w.heap[b]? = some (.cells #[a0, a1, a2, a3, a4, a5, a6, a7, a8] e (0, 0))) :
    (((((w.setCell ⟨b, 3, none⟩ v3).setCell ⟨b, 4, none⟩ v4).setCell ⟨b, 5, none⟩ v5).setCell ⟨b, 6, none⟩ v6).setCell ⟨b, 7, none⟩ v7).heap[b]? = some (.cells #[a0, a1, a2, v3, v4, v5, v6, v7, a8] e (0, 0)) := by
  have h3 : (w.setCell ⟨b, 3, none⟩ v3).heap[b]? = some (.cells #[a0, a1, a2, v3, a4, a5, a6, a7, a8] e (0, 0)) := heap_set w b 3 _ e v3 hb
  have h4 : ((w.setCell ⟨b, 3, none⟩ v3).setCell ⟨b, 4, none⟩ v4).heap[b]? = some (.cells #[a0, a1, a2, v3, v4, a5, a6, a7, a8] e (0, 0)) := heap_set _ b 4 _ e v4 h3
  have h5 : (((w.setCell ⟨b, 3, none⟩ v3).setCell ⟨b, 4, none⟩ v4).setCell ⟨b, 5, none⟩ v5).heap[b]? = some (.cells #[a0, a1, a2, v3, v4, v5, a6, a7, a8] e (0, 0)) := heap_set _ b 5 _ e v5 h4
  have h6 : ((((w.setCell ⟨b, 3, none⟩ v3).setCell ⟨b, 4, none⟩ v4).setCell ⟨b, 5, none⟩ v5).setCell ⟨b, 6, none⟩ v6).heap[b]? = some (.cells #[a0, a1, a2, v3, v4, v5, v6, a7, a8] e (0, 0)) := heap_set _ b 6 _ e v6 h5
  exact heap_set _ b 7 _ e v7 h6
theorem kept5 (w : World) (b : Nat) (v3 v4 v5 v6 v7 : Value) : Kept (Just b) w (((((w.setCell ⟨b, 3, none⟩ v3).setCell ⟨b, 4, none⟩ v4).setCell ⟨b, 5, none⟩ v5).setCell ⟨b, 6, none⟩ v6).setCell ⟨b, 7, none⟩ v7) :=
  ((((kept1 w b 3 v3).trans' (kept1 _ b 4 v4)).trans' (kept1 _ b 5 v5)).trans' (kept1 _ b 6 v6)).trans' (kept1 _ b 7 v7)
/-- the log is taken in -/
theorem LogAt.loaded {w5 : World} {b bd : Nat} {L : Wal.Lg} {x3 x4 x5 x6 x7 rv : Value} {vs : List Value} {R : Nat → Prop}
    (hb : w5.heap[b]? = some (.cells #[.pointer (some ⟨bd, 0, none⟩), .int .i64 L.frm, .int .i64 L.half, x3, x4, x5, x6, x7, .bool false] 70 (0, 0))) (hrv : Reads w5 rv vs R) (hvs : ReadRows w5 vs L.recs R) (hRb : ¬ R b) (hu : Under R w5.heap.size) :
    LogAt (((((w5.setCell ⟨b, 3, none⟩ (.int .i64 L.hf)).setCell ⟨b, 4, none⟩ (.int .i64 L.base)).setCell ⟨b, 5, none⟩ (.int .i64 L.first)).setCell ⟨b, 6, none⟩ (.int .i64 L.size)).setCell ⟨b, 7, none⟩ rv) b bd L R ∧
    Kept (Just b) w5 (((((w5.setCell ⟨b, 3, none⟩ (.int .i64 L.hf)).setCell ⟨b, 4, none⟩ (.int .i64 L.base)).setCell ⟨b, 5, none⟩ (.int .i64 L.first)).setCell ⟨b, 6, none⟩ (.int .i64 L.size)).setCell ⟨b, 7, none⟩ rv) := by
  have k := kept5 w5 b (.int .i64 L.hf) (.int .i64 L.base) (.int .i64 L.first) (.int .i64 L.size) rv
  have h := heap5 w5 b _ _ _ _ _ _ _ _ _ (.int .i64 L.hf) (.int .i64 L.base) (.int .i64 L.first) (.int .i64 L.size) rv _ hb
  have hd : Disj R (Just b) := fun j hj h => hRb (by rw [show j = b from h] at hj; exact hj)
  exact ⟨⟨rv, vs, h, hRb, hrv.kept k hd, hvs.kept k hd, hu.mono k.size⟩, k⟩
theorem RowsAt.read {w : World} {e : TypeId} {vs : List Value} {rs : List (List Value)} {F : Nat → Prop} (h : RowsAt w e vs rs F) : ReadRows w vs rs F := ⟨h.len, fun i v x h1 h2 => (h.own i v x h1 h2).reads⟩
theorem LogAt.drew {w : World} {b bd : Nat} {L : Wal.Lg} {R : Nat → Prop} (h : LogAt w b bd L R) : LogAt w.drew b bd L R := h.kept (Kept.drew Nob w) (fun f => f) (fun _ _ f => f)
end Go.Proofs.YtcclbaphdblcfaaDoor
