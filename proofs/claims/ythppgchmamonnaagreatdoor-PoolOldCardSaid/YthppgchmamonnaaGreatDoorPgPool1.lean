/- The pool: what it is in memory; gone, Log, Held, Stats. -/
import Derived.Test.YthppgchmamonnaaGreatDoorPgHeld
import Derived.Test.YthppgchmamonnaaGreatDoorPgDisk8
namespace Go.Proofs.YthppgchmamonnaaGreatDoor
open Go.RowKit

/-- a page that is held: its struct's block, its page's block -/
structure Hd where
  g : Nat
  pg : Nat
  pins : Nat
  dirty : Bool
  lsn : Int
  used : Nat
/-- a pool -/
structure Pl where
  pages : Nat
  room : Nat
  mark : Int
  clock : Nat
  hits : Nat
  reads : Nat
  wrote : Nat
  all : List (Int × Hd)
/-- which block holds which page's struct -/
def Pl.map (P : Pl) : List (Int × Nat) := P.all.map fun p => (p.1, p.2.g)

/-- The structs at blocks b and mb, and the held structs in S, are the pool P on the disk at block bd. -/
structure PoolAt (w : World) (b bd mb : Nat) (P : Pl) (S : Nat → Prop) : Prop where
  head : w.heap[b]? = some (.cells #[.pointer (some ⟨bd, 0, none⟩), .int .i64 P.pages, .int .i64 P.room, .int .i64 P.mark, .int .i64 P.clock, .map (some mb), .int .i64 P.hits, .int .i64 P.reads, .int .i64 P.wrote] 76 (0, 0))
  map : MapAt w mb P.map
  held : ∀ p ∈ P.all, S p.2.g ∧ w.heap[p.2.g]? = some (.cells #[.pointer (some ⟨p.2.pg, 0, none⟩), .int .i64 p.2.pins, .bool p.2.dirty, .int .i64 p.2.lsn, .int .i64 p.2.used] 80 (0, 0))
  once : P.all.Pairwise fun p q => p.2.g ≠ q.2.g
  Sb : ¬ S b
  Sm : ¬ S mb
  bm : b ≠ mb
  under : Under S w.heap.size
theorem PoolAt.lt {w : World} {b bd mb : Nat} {P : Pl} {S : Nat → Prop} (h : PoolAt w b bd mb P S) : b < w.heap.size := (Array.getElem?_eq_some_iff.1 h.head).1
theorem PoolAt.kept {w w' : World} {b bd mb : Nat} {P : Pl} {S G : Nat → Prop} (h : PoolAt w b bd mb P S) (hk : Kept G w w') (hb : ¬ G b) (hm : ¬ G mb) (hS : Disj S G) : PoolAt w' b bd mb P S :=
  ⟨(hk.block b h.lt hb).trans h.head, h.map.kept hk hm, fun p hp => ⟨(h.held p hp).1, (hk.block _ (h.under _ (h.held p hp).1) (hS _ (h.held p hp).1)).trans (h.held p hp).2⟩, h.once, h.Sb, h.Sm, h.bm, h.under.mono hk.size⟩
theorem PoolAt.nob {w w' : World} {b bd mb : Nat} {P : Pl} {S : Nat → Prop} (h : PoolAt w b bd mb P S) (hk : Kept Nob w w') : PoolAt w' b bd mb P S := h.kept hk (fun f => f) (fun f => f) (fun _ _ f => f)

theorem pool_gone (w : World) (b bd mb : Nat) (P : Pl) (S : Nat → Prop) (h : PoolAt w b bd mb P S) :
    Calls Tryz.prog 34 #[.pointer (some ⟨b, 0, none⟩)] w fun e w' => e = .returned (.bool false) ∧ w = w' := by
  have c0 : w.cell? ⟨b, 0, none⟩ = some (.pointer (some ⟨bd, 0, none⟩)) := cell_at h.head 0 _ rfl
  clear h
  go_enter Tryz.func34, Tryz.ntmps34
  go_wp2
  go_ret
  exact ⟨rfl, rfl⟩
theorem pool_gone_nil (w : World) :
    Calls Tryz.prog 34 #[.pointer none] w fun e w' => e = .returned (.bool true) ∧ w = w' := by
  go_enter Tryz.func34, Tryz.ntmps34
  go_wp2
  go_ret
  exact ⟨rfl, rfl⟩

/-- the pages' numbers -/
def Pl.keys (P : Pl) : List Value := P.all.map fun p => .int .i64 p.1
theorem pool_held (w : World) (b bd mb : Nat) (P : Pl) (S : Nat → Prop) (h : PoolAt w b bd mb P S) (hl : P.all.length ≤ 100000) :
    Calls Tryz.prog 15 #[.pointer (some ⟨b, 0, none⟩)] w fun e w' => ∃ a c, e = .returned (.slice a P.all.length c) ∧ Own w' 3 (.slice a P.all.length c) P.keys (From w.heap.size) ∧ Kept Nob w w' := by
  have HG := Lib.hid (pool_gone w b bd mb P S h)
  have c5 : w.cell? ⟨b, 5, none⟩ = some (.map (some mb)) := cell_at h.head 5 _ rfl
  have hml : P.map.length = P.all.length := by simp [Pl.map]
  have hc := sorted_call w mb P.map h.map (by omega)
  rw [hml, show (P.map.map fun p => Value.int .i64 p.1) = P.keys from by simp [Pl.map, Pl.keys, List.map_map, Function.comp]] at hc
  have HC := Lib.hid hc
  clear h hc hml
  go_enter Tryz.func15, Tryz.ntmps15
  go_wp2_with (first
    | (go_at_call 34; refine HG.out.mono ?_; rintro e w' ⟨rfl, rfl⟩)
    | (go_at_call 39; refine (keys_call _ _).mono ?_; rintro e w' ⟨rfl, rfl⟩)
    | (go_at_call 38; refine HC.out.mono ?_; rintro e w2 ⟨a2, c2, rfl, ho2, hk2, -⟩))
  go_ret
  exact ⟨a2, c2, rfl, ho2, hk2⟩
theorem pool_held_nil (w : World) :
    Calls Tryz.prog 15 #[.pointer none] w fun e w' => e = .returned (.slice none 0 0) ∧ w = w' := by
  go_enter Tryz.func15, Tryz.ntmps15
  go_wp2_with (go_at_call 34; refine (pool_gone_nil _).mono ?_; rintro e w' ⟨rfl, rfl⟩)
  go_ret
  exact ⟨rfl, rfl⟩
theorem pool_stats_nil (w : World) :
    Calls Tryz.prog 18 #[.pointer none] w fun e w' => e = .returned (.tuple #[.int .i64 0, .int .i64 0, .int .i64 0]) ∧ w = w' := by
  go_enter Tryz.func18, Tryz.ntmps18
  go_wp2_with (go_at_call 34; refine (pool_gone_nil _).mono ?_; rintro e w' ⟨rfl, rfl⟩)
  go_ret3
  exact ⟨rfl, rfl⟩
end Go.Proofs.YthppgchmamonnaaGreatDoor
