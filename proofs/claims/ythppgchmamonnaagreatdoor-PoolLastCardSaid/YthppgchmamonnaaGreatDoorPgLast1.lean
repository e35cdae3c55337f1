/- PoolLast: the calls inside a round. -/
import Derived.Test.YthppgchmamonnaaGreatDoorPgLastM
namespace Go.Proofs.YthppgchmamonnaaGreatDoor
open Go.RowKit

theorem Live.ids {w0 w : World} {bd b mb : Nat} {d : Dsk} {P : Pl} {K Z : Nat → Prop} {con : Nat → PgM} (h : Live w0 w bd b mb d P K con Z) : ∀ p ∈ P.all, K p.2.pg ∧ (con p.2.pg).id = p.1 := by
  obtain ⟨F, S, R, L, hZ⟩ := h
  exact L.held
theorem Live.nowlen {w0 w : World} {bd b mb : Nat} {d : Dsk} {P : Pl} {K Z : Nat → Prop} {con : Nat → PgM} (h : Live w0 w bd b mb d P K con Z) : ∃ F, DiskAt w bd d F := by
  obtain ⟨F, S, R, L, hZ⟩ := h
  exact ⟨F, L.disk⟩
/-- one page or none -/
theorem Live.look {w0 w : World} {bd b mb : Nat} {d : Dsk} {P : Pl} {K Z : Nat → Prop} {con : Nat → PgM} (_h : Live w0 w bd b mb d P K con Z) (k : Int) : (∃ x, (k, x) ∈ P.all) ∨ find P.map k = none := by
  by_cases hf : find P.map k = none
  · exact .inr hf
  · refine .inl ?_
    by_cases he : ∃ x, (k, x) ∈ P.all
    · exact he
    · exact absurd (find_none.2 fun q hq e => by
        obtain ⟨p, hp, rfl⟩ := List.mem_map.1 hq
        exact he ⟨p.2, by rw [← show p.1 = k from e]; exact hp⟩) hf

/-- the pool between rounds -/
def LastIn (w0 w : World) (bd b mb : Nat) (cnt : Nat → Nat) (i room : Nat) (logged : Bool) (m : Int) (Z : Nat → Prop) : Prop :=
  ∃ d P K con, Live w0 w bd b mb d P K con Z ∧ LastAt d P con cnt i room logged m
/-- the pool inside a round: the page at pg is pinned -/
def PinIn (w0 w : World) (bd b mb : Nat) (cnt : Nat → Nat) (i room : Nat) (logged : Bool) (m : Int) (k pg : Nat) (Z : Nat → Prop) : Prop :=
  ∃ d P K con x, x.pg = pg ∧ Live w0 w bd b mb d P K con Z ∧ LastPin d P con cnt i room logged m k x
theorem LastIn.nob {w0 w w' : World} {bd b mb : Nat} {cnt : Nat → Nat} {i room : Nat} {logged : Bool} {m : Int} {Z : Nat → Prop} (h : LastIn w0 w bd b mb cnt i room logged m Z) (hk : Kept Nob w w') : LastIn w0 w' bd b mb cnt i room logged m Z := by
  obtain ⟨d, P, K, con, L, h⟩ := h
  exact ⟨d, P, K, con, L.nob hk, h⟩
theorem PinIn.nob {w0 w w' : World} {bd b mb : Nat} {cnt : Nat → Nat} {i room : Nat} {logged : Bool} {m : Int} {k pg : Nat} {Z : Nat → Prop} (h : PinIn w0 w bd b mb cnt i room logged m k pg Z) (hk : Kept Nob w w') : PinIn w0 w' bd b mb cnt i room logged m k pg Z := by
  obtain ⟨d, P, K, con, x, e, L, h⟩ := h
  exact ⟨d, P, K, con, x, e, L.nob hk, h⟩
theorem LastIn.kept {w0 w : World} {bd b mb : Nat} {cnt : Nat → Nat} {i room : Nat} {logged : Bool} {m : Int} {Z : Nat → Prop} (h : LastIn w0 w bd b mb cnt i room logged m Z) : Kept Nob w0 w := by
  obtain ⟨d, P, K, con, L, h⟩ := h
  exact L.kept
theorem PinIn.kept {w0 w : World} {bd b mb : Nat} {cnt : Nat → Nat} {i room : Nat} {logged : Bool} {m : Int} {k pg : Nat} {Z : Nat → Prop} (h : PinIn w0 w bd b mb cnt i room logged m k pg Z) : Kept Nob w0 w := by
  obtain ⟨d, P, K, con, x, e, L, h⟩ := h
  exact L.kept
/-- so the state is behind a call -/
def ToLast (w : World) (Z : Nat → Prop) (Q : World → (Nat → Prop) → Prop) (w' : World) : Prop := ∃ Z', Q w' Z' ∧ Grows Z w.heap.size Z' ∧ Kept Z w w'

theorem LastIn.log {w0 w : World} {bd b mb : Nat} {cnt : Nat → Nat} {i room : Nat} {m : Int} {Z : Nat → Prop} (h : LastIn w0 w bd b mb cnt i room true m Z) (n : Int) (hn : m ≤ n) :
    Calls Tryz.prog 22 #[.pointer (some ⟨b, 0, none⟩), .int .i64 n] w fun e w' => e = .returned (.tuple #[]) ∧ ToLast w Z (fun w' Z' => LastIn w0 w' bd b mb cnt i room true n Z') w' := by
  obtain ⟨d, P, K, con, L, h⟩ := h
  refine (L.log n).mono ?_
  rintro e w' ⟨rfl, Z', L', hg, hk⟩
  have hm := h.log rfl
  exact ⟨rfl, Z', ⟨d, _, K, con, L', ⟨h.on, h.ops, h.len, h.pages, h.room, h.clock, h.hits, h.reads, h.wrote, h.most, h.held, h.disk, fun _ => ⟨by show max P.mark n = n; omega, by omega⟩, fun e => by cases e⟩⟩, hg, hk⟩
/-- behind Pin: a page, or none -/
def RetLast (w0 w : World) (bd b mb : Nat) (cnt : Nat → Nat) (i room : Nat) (logged : Bool) (m : Int) (k : Nat) (Z : Nat → Prop) (e : Ending) (w' : World) : Prop :=
  (∃ pg, e = .returned (.tuple #[.pointer (some ⟨pg, 0, none⟩), .nilIface]) ∧ ToLast w Z (fun w' Z' => PinIn w0 w' bd b mb cnt i room logged m k pg Z') w') ∨
  (logged = false ∧ RetNoPage w k 8 Nob e w')
theorem LastIn.pin {w0 w : World} {bd b mb : Nat} {cnt : Nat → Nat} {i room : Nat} {logged : Bool} {m : Int} {Z : Nat → Prop} (h : LastIn w0 w bd b mb cnt i room logged m Z) (hm : logged = true → (i : Int) + 1 ≤ m) (hi : i ≤ 1000) (hr : 1 ≤ room) (k : Nat) (hk : k < 8) :
    Calls Tryz.prog 12 #[.pointer (some ⟨b, 0, none⟩), .int .i64 k] w (RetLast w0 w bd b mb cnt i room logged m k Z) := by
  obtain ⟨d, P, K, con, L, h⟩ := h
  have hc := h.clock
  have hh := h.hits
  have hrd := h.reads
  have hw := h.wrote
  have ho := h.ops
  rcases L.look (k : Int) with ⟨x, hx⟩ | hno
  · have hp := (h.held _ hx).1
    simp only at hp
    refine (L.hit k x hx (by omega) (by omega) (by omega)).mono ?_
    rintro e w' ⟨rfl, Z', L', hg, hkk⟩
    exact .inl ⟨_, rfl, Z', ⟨d, _, K, con, { x with pins := x.pins + 1, used := P.clock + 1 }, rfl, L', h.hit hm hx⟩, hg, hkk⟩
  · by_cases hf : P.all.length < P.room ∨ logged = true
    · have hm' : P.all.length < P.room ∨ ∃ x, bestOf P P.all = some x := by
        by_cases hl : P.all.length < P.room
        · exact .inl hl
        · exact .inr ((h.best hr hl).1 (hf.elim (fun e => absurd e hl) id))
      refine (L.fresh_pin k hno (by rw [h.pages]; exact hk) (pageL k (cnt k)) (h.oust k hk (Pl.ousted_none hno)) (pageL_fine _ _ (by omega) (by have := h.most k; omega)) rfl (by omega) (by omega) (by omega) (by omega) h.on hm').mono ?_
      rintro e w' ⟨g, pg, rfl, hnK, hpg, Z', L', hg, hkk⟩
      exact .inl ⟨_, rfl, Z', ⟨_, _, _, _, _, rfl, L', h.fresh hm hk hno hf g pg fun p hp e => hnK (by rw [← e]; exact (L.ids p hp).1)⟩, hg, hkk⟩
    · have hl : ¬ P.all.length < P.room := fun e => hf (.inl e)
      have hlg : logged = false := by
        cases logged with
        | true => exact absurd (.inr rfl) hf
        | false => rfl
      refine (L.full k hno (by rw [h.pages]; exact hk) (by omega) (by omega) ((h.best hr hl).2 hlg)).mono ?_
      intro e w' q
      exact .inr ⟨hlg, q⟩
theorem PinIn.slots {w0 w : World} {bd b mb : Nat} {cnt : Nat → Nat} {i room : Nat} {logged : Bool} {m : Int} {k pg : Nat} {Z : Nat → Prop} (h : PinIn w0 w bd b mb cnt i room logged m k pg Z) :
    Calls Tryz.prog 23 #[.pointer (some ⟨pg, 0, none⟩)] w fun e w' => (∃ a c, e = .returned (.slice a (cnt k) c)) ∧ Kept Nob w w' := by
  obtain ⟨d, P, K, con, x, rfl, ⟨F, S, R, L, hZ⟩, h⟩ := h
  have hp := (L.page _ (L.held _ h.mem).1).1
  have hl := pageL_len k (cnt k)
  have hf := pageL_full k (cnt k)
  have hm := h.most k
  simp only at hp
  rw [h.page] at hp
  refine (page_slots w x.pg _ R hp (by rw [hl]; omega)).mono ?_
  rintro e w' ⟨⟨a, c, e1, -, hk⟩, v, rfl⟩
  simp only at e1
  rw [hf] at e1
  exact ⟨⟨a, c, by rw [e1]⟩, hk⟩
theorem PinIn.insert {w0 w : World} {bd b mb : Nat} {cnt : Nat → Nat} {i room : Nat} {logged : Bool} {m : Int} {k pg : Nat} {Z : Nat → Prop} (h : PinIn w0 w bd b mb cnt i room logged m k pg Z) (hc : cnt k < 20) (v : Value) (G : Nat → Prop) (hv : Reads w v [.int .u8 k, .int .u8 (cnt k)] G) :
    Calls Tryz.prog 24 #[.pointer (some ⟨pg, 0, none⟩), v] w fun e w' => (∃ n : Int, e = .returned (.tuple #[.int .i64 n, .nilIface])) ∧ ToLast w Z (fun w' Z' => PinIn w0 w' bd b mb (fun j => if j = k then cnt k + 1 else cnt j) i room logged m k pg Z') w' := by
  obtain ⟨d, P, K, con, x, rfl, L, h⟩ := h
  have hK := (L.ids _ h.mem).1
  have hk8 := h.k8
  refine (L.insert x.pg hK v [(k : Int), (cnt k : Int)] G hv (by simp) (by rw [h.page, pageL_free]; omega) (by rw [h.page, pageL_free, pageL_succ, pageL_used]; omega) (fun y hy => by
    simp only [List.mem_cons, List.not_mem_nil, or_false] at hy
    rcases hy with rfl | rfl <;> omega)).mono ?_
  rintro e w' ⟨rfl, Z', L', hg, hkk⟩
  exact ⟨⟨_, rfl⟩, Z', ⟨d, P, K, _, x, rfl, L', h.insert hc fun p hp => (L.ids p hp).2⟩, hg, hkk⟩
theorem PinIn.unpin {w0 w : World} {bd b mb : Nat} {cnt : Nat → Nat} {i room : Nat} {logged : Bool} {m : Int} {k pg : Nat} {Z : Nat → Prop} (h : PinIn w0 w bd b mb cnt i room logged m k pg Z) (hc : 1 ≤ cnt k) :
    Calls Tryz.prog 14 #[.pointer (some ⟨b, 0, none⟩), .int .i64 k, .bool true, .int .i64 ((i : Int) + 1)] w fun e w' => e = .returned .nilIface ∧ ToLast w Z (fun w' Z' => LastIn w0 w' bd b mb cnt (i + 1) room logged m Z') w' := by
  obtain ⟨d, P, K, con, x, rfl, L, h⟩ := h
  have hp := h.pins
  refine (L.unpin k ((i : Int) + 1) true x h.mem (by omega) (by omega)).mono ?_
  rintro e w' ⟨rfl, Z', L', hg, hkk⟩
  exact ⟨rfl, Z', ⟨d, _, K, con, L', h.unpin hc⟩, hg, hkk⟩
end Go.Proofs.YthppgchmamonnaaGreatDoor
