/- slices.Sorted(maps.Keys(m)) of a map from numbers to pointers. -/
import Derived.Test.YthppgchmamonnaaGreatDoorPq05
import Derived.Shelf.SlIterI.Nil
import Derived.Shelf.SortM.Plain
import Derived.Shelf.SortM.SortNone
import Derived.Test.YthppgchmamonnaaGreatDoorPgKeys
namespace Go.Proofs.YthppgchmamonnaaGreatDoor
open Go.RowKit Go.Maps Go.Sort Go.Shelf
theorem sortsA (m : Nat) : AnyZI.SortsIn Tryz.prog Tryz.sortedA_ren Fence.wide m :=
  ⟨fun blk off cap ss W hH hblk hsz => callsIn_wide.2 (AnyM.slices_Sort_int Tryz.sortA blk off cap ss W hH hblk hsz),
   fun p cap W => callsIn_wide.2 (AnyM.slices_Sort_int_none Tryz.sortA p cap W)⟩
theorem intKeys_Mp (l : List (Int × Nat)) : intKeys (Mp l) = l.map fun p => p.1 := by
  show (l.map _).map _ = _
  rw [List.map_map]
  rfl
theorem sorted_keys {l : List (Int × Nat)} (h : Rising l) {ss : List Int} (hs : ss.Perm (l.map fun p => p.1)) : ss.mergeSort (fun x y => decide (x ≤ y)) = l.map fun p => p.1 := by
  have h1 : (ss.mergeSort (fun x y => decide (x ≤ y))).Perm (l.map fun p => p.1) := (List.mergeSort_perm ss _).trans hs
  have h2 : (ss.mergeSort (fun x y => decide (x ≤ y))).Pairwise (fun x y : Int => x ≤ y) := by
    have := List.pairwise_mergeSort (le := fun x y : Int => decide (x ≤ y)) (fun a b c h1 h2 => by simp at *; omega) (fun a b => by simp; omega) ss
    exact this.imp fun h => by simpa using h
  have h3 : (l.map fun p => p.1).Pairwise (fun x y : Int => x ≤ y) := by
    rw [List.pairwise_map]
    exact h.imp fun h => by omega
  exact h1.eq_of_pairwise (fun a b _ _ h1 h2 => Int.le_antisymm h1 h2) h2 h3
theorem keys_call (w : World) (mb : Option Nat) :
    Calls Tryz.prog 39 #[.map mb] w fun e w' => e = .returned (.func (.func 75) #[] #[.pointer (some ⟨w.heap.size, 0, none⟩)]) ∧ w' = w.alloc (.cells #[.map mb] 74) :=
  callsIn_wide.1 (AnyZI.keys_in Tryz.keysA Fence.wide 5 trivial rfl mb w)
theorem sorted_call (w : World) (b : Nat) (l : List (Int × Nat)) (h : MapAt w b l) (hl : l.length ≤ 100000) :
    Calls Tryz.prog 38 #[.func (.func 75) #[] #[.pointer (some ⟨w.heap.size, 0, none⟩)]] (w.alloc (.cells #[.map (some b)] 74)) fun e w' =>
      ∃ a c, e = .returned (.slice a l.length c) ∧ Own w' 3 (.slice a l.length c) (l.map fun p => .int .i64 p.1) (From w.heap.size) ∧ Kept Nob w w' ∧ (Value.slice a l.length c = .slice none 0 0 ↔ l = []) := by
  have hown := h.1
  have hbl := hown.lt
  have hseq : SeqGives Fence.wide 2 Tryz.prog 75 #[.pointer (some ⟨w.heap.size, 0, none⟩)] encZ (fun ss => ss.Perm (intKeys (Mp l))) (Maps.size (Mp l)) (w.alloc (.cells #[.map (some b)] 74)) :=
    AnyZI.keys_gives (ρ := Tryz.keysA_ren) { Tryz.keysA with } Fence.wide _ trivial rfl (by omega) w.heap.size b l.length (Mp l) _ (by simp) (by simp) (by
      obtain ⟨es, clock, hb, Ft, hs, hD⟩ := hown
      exact ⟨es, clock, (Below.heap_alloc _ _ b hbl).trans hb, Ft, hs, hD⟩)
  have cS := AnyZI.sorted_in Tryz.sortedA Fence.wide 5 trivial trivial trivial trivial rfl (by omega) (sortsA _) (enters_of Tryz.func74 (by kernel_rfl) rfl) 75 #[.pointer (some ⟨w.heap.size, 0, none⟩)] trivial (enters_of Tryz.func75 (by kernel_rfl) rfl) _ _ (by rw [Mp_size]; unfold maxLen; omega) (by rw [Mp_size]; omega) _ hseq
  change CallsIn _ _ Tryz.prog 38 _ _ _ at cS
  refine (callsIn_wide.1 cS).mono ?_
  rintro e w' ⟨v, ss, rfl, hS, hrow, hnil, hb⟩
  rw [sorted_keys h.2 (by rw [← intKeys_Mp]; exact hS)] at hrow
  have hlen : ss.length = l.length := by
    have := hS.length_eq
    rw [intKeys_Mp, List.length_map] at this
    exact this
  rw [hlen] at hrow
  have hxs : List.map encZ (List.map (fun p => p.fst) l) = l.map fun p => Value.int .i64 p.1 := by rw [List.map_map]; rfl
  rw [hxs] at hrow
  have hsh : ∃ a c, v = .slice a l.length c := by
    rcases hrow.2 with ⟨hv, h0⟩ | ⟨g, cap, cur, hv, _⟩
    · exact ⟨none, 0, by rw [hv, h0]⟩
    · exact ⟨_, cap, hv⟩
  obtain ⟨a, c, rfl⟩ := hsh
  have hln : (l.map fun p => Value.int .i64 p.1).length = l.length := List.length_map _
  refine ⟨a, c, rfl, ⟨?_, fun g hg => ?_⟩, (Kept.alloc Nob w _).from (n := (w.alloc (.cells #[.map (some b)] 74)).heap.size) (by simp) (Kept.of_below hb), hnil.trans ?_⟩
  · rw [hln]
    exact ⟨hrow.1, hrow.2.elim .inl fun ⟨g, cap, cur, hv, hg, r⟩ => .inr ⟨g, cap, cur, hv, Nat.zero_le _, r⟩⟩
  · rcases hrow.2 with ⟨hv, h0⟩ | ⟨g', cap, cur, hv, hg', _⟩
    · rw [hv] at hg; simp [Value.ownBlock] at hg
    · rw [hv] at hg
      have : g' = g := by
        simp [Value.ownBlock] at hg
        first | exact hg | exact hg.2 | exact hg.1
      have h1 : (w.alloc (.cells #[.map (some b)] 74)).heap.size = w.heap.size + 1 := by simp
      show w.heap.size ≤ g
      omega
  · constructor
    · intro h; rw [h] at hlen; exact List.eq_nil_of_length_eq_zero (by simpa using hlen.symm)
    · intro h; rw [h] at hlen; exact List.eq_nil_of_length_eq_zero (by simpa using hlen)
end Go.Proofs.YthppgchmamonnaaGreatDoor
