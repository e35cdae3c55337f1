/- Pages as bytes: what Bytes writes Parse reads. No program here. -/
import Derived.Test.YthppgchmamonnaaGreatDoorPgSlot9
namespace Go.Proofs.YthppgchmamonnaaGreatDoor
open Go.RowKit

theorem set_far {ys : List Int} {o k : Nat} {x : Int} (h : k ≠ o) : (ys.set o x).getD k 0 = ys.getD k 0 := by
  rw [List.getD_eq_getElem?_getD, List.getD_eq_getElem?_getD, List.getElem?_set_ne (Ne.symm h)]
theorem set_at {ys : List Int} {o : Nat} {x : Int} (h : o < ys.length) : (ys.set o x).getD o 0 = x := by
  rw [List.getD_eq_getElem?_getD, List.getElem?_set_self h]; rfl
theorem put2_far {ys : List Int} {o k : Nat} {n : Int} (h : k ≠ o) (h' : k ≠ o + 1) : (put2 ys o n).getD k 0 = ys.getD k 0 := by
  rw [put2, set_far h', set_far h]
theorem put2_0 {ys : List Int} {o : Nat} {n : Int} (h : o + 1 < ys.length) : (put2 ys o n).getD o 0 = n % 256 := by
  rw [put2, set_far (by omega), set_at (by omega)]
theorem put2_1 {ys : List Int} {o : Nat} {n : Int} (h : o + 1 < ys.length) : (put2 ys o n).getD (o + 1) 0 = n / 256 % 256 := by
  rw [put2, set_at (by rw [List.length_set]; omega)]
theorem put2_g16 {ys : List Int} {o : Nat} {n : Int} (h : o + 1 < ys.length) (hn : 0 ≤ n ∧ n < 65536) : g16 (put2 ys o n) o = n := by
  rw [g16, put2_0 h, put2_1 h]; omega
theorem g16_same {ys zs : List Int} {o : Nat} (h0 : zs.getD o 0 = ys.getD o 0) (h1 : zs.getD (o + 1) 0 = ys.getD (o + 1) 0) : g16 zs o = g16 ys o := by
  rw [g16, g16, h0, h1]
theorem put4_far {ys : List Int} {o k : Nat} {n : Int} (h : k < o ∨ o + 4 ≤ k) : (put4 ys o n).getD k 0 = ys.getD k 0 := by
  rw [put4, put2_far (by omega) (by omega), put2_far (by omega) (by omega)]
theorem put4_g16 {ys : List Int} {o : Nat} {n : Int} (h : o + 3 < ys.length) (hn : 0 ≤ n ∧ n < 4294967296) : g16 (put4 ys o n) o + 65536 * g16 (put4 ys o n) (o + 2) = n := by
  have h2 : g16 (put4 ys o n) (o + 2) = n / 65536 := by rw [put4, put2_g16 (by rw [put2_length]; omega) (by omega)]
  have h1 : g16 (put4 ys o n) o = n % 256 + 256 * (n / 256 % 256) := by
    rw [g16, put4, put2_far (k := o) (by omega) (by omega), put2_far (k := o + 1) (o := o + 2) (by omega) (by omega), put2_0 (by omega), put2_1 (by omega)]
  rw [h1, h2]; omega
theorem layB_far {ys : List Int} {at_ k : Nat} {bs : List Int} (hl : at_ + bs.length ≤ ys.length) (h : k < at_ ∨ at_ + bs.length ≤ k) : (layB ys at_ bs).getD k 0 = ys.getD k 0 := by
  rw [List.getD_eq_getElem?_getD, List.getD_eq_getElem?_getD]
  congr 1
  rw [layB]
  rcases h with h | h
  · rw [List.getElem?_append_left (by rw [List.length_take]; omega), List.getElem?_take_of_lt h]
  · rw [List.getElem?_append_right (by rw [List.length_take]; omega), List.getElem?_append_right (by rw [List.length_take]; omega), List.getElem?_drop, List.length_take]
    congr 1; omega
theorem layB_in {ys : List Int} {at_ k : Nat} {bs : List Int} (hl : at_ + bs.length ≤ ys.length) (h : k < bs.length) : (layB ys at_ bs)[at_ + k]? = bs[k]? := by
  rw [layB, List.getElem?_append_right (by rw [List.length_take]; omega), List.getElem?_append_left (by rw [List.length_take]; omega), List.length_take]
  congr 1; omega
theorem get_same {ys zs : List Int} (hl : zs.length = ys.length) {k : Nat} (h : zs.getD k 0 = ys.getD k 0) : zs[k]? = ys[k]? := by
  by_cases hk : k < ys.length
  · rw [List.getD_eq_getElem?_getD, List.getD_eq_getElem?_getD, List.getElem?_eq_getElem hk, List.getElem?_eq_getElem (by omega)] at h
    rw [List.getElem?_eq_getElem hk, List.getElem?_eq_getElem (by omega)]
    exact congrArg some h
  · rw [List.getElem?_eq_none (by omega), List.getElem?_eq_none (by omega)]
theorem cut_same {ys zs : List Int} (hl : zs.length = ys.length) {f m : Nat} (h : ∀ k, f ≤ k → zs.getD k 0 = ys.getD k 0) : (zs.drop f).take m = (ys.drop f).take m := by
  congr 1
  refine List.ext_getElem? fun n => ?_
  rw [List.getElem?_drop, List.getElem?_drop]
  exact get_same hl (h _ (by omega))
theorem slotAt_same {ys zs : List Int} {i : Nat} (hl : zs.length = ys.length) (h1 : ∀ k, 16 + 4 * i ≤ k → k < 20 + 4 * i → zs.getD k 0 = ys.getD k 0) (h2 : 0 ≤ g16 ys (18 + 4 * i) - 1 → ∀ k, (g16 ys (16 + 4 * i)).toNat ≤ k → zs.getD k 0 = ys.getD k 0) : slotAt zs i = slotAt ys i := by
  have e1 : g16 zs (16 + 4 * i) = g16 ys (16 + 4 * i) := g16_same (h1 _ (by omega) (by omega)) (h1 _ (by omega) (by omega))
  have e2 : g16 zs (18 + 4 * i) = g16 ys (18 + 4 * i) := g16_same (h1 _ (by omega) (by omega)) (h1 _ (by omega) (by omega))
  rw [slotAt, slotAt, e1, e2]
  by_cases h0 : g16 ys (18 + 4 * i) - 1 < 0
  · rw [if_pos h0, if_pos h0]
  · rw [if_neg h0, if_neg h0, cut_same hl (h2 (by omega))]
/-- what the first j slots say -/
structure Laid (p : PgM) (j : Nat) (z : List Int) (e : Nat) : Prop where
  len : z.length = 512
  slot : ∀ i, i < j → slotAt z i = some (p.ss.getD i none) ∧ (0 ≤ g16 z (18 + 4 * i) - 1 → (e : Int) ≤ g16 z (16 + 4 * i))
  head : ∀ k, k < 16 → z.getD k 0 = (headRow p).getD k 0
  zero : ∀ k, 16 + 4 * j ≤ k → k < e → z.getD k 0 = 0
theorem headRow_zero (p : PgM) (k : Nat) (h : 6 ≤ k) : (headRow p).getD k 0 = 0 := by
  rw [headRow, put4_far (by omega), set_far (by omega), set_far (by omega), List.getD_eq_getElem?_getD, List.getElem?_replicate]
  split <;> rfl
theorem getD_of {ss : List (Option (List Int))} {j : Nat} {s : Option (List Int)} (hj : j < ss.length) (h : ss[j] = s) : ss.getD j none = s := by
  rw [List.getD_eq_getElem?_getD, List.getElem?_eq_getElem hj]; exact h
theorem laid_none {p : PgM} {j e : Nat} {z : List Int} (L : Laid p j z e) (hj : j < p.ss.length) (hs : p.ss[j] = none) (hr : 16 + 4 * (j + 1) ≤ e) : Laid p (j + 1) z e := by
  refine ⟨L.len, fun i hi => ?_, L.head, fun k h1 h2 => L.zero k (by omega) h2⟩
  by_cases hij : i < j
  · exact L.slot i hij
  · obtain rfl : i = j := by omega
    have e2 : g16 z (18 + 4 * i) = 0 := by rw [g16, L.zero _ (by omega) (by omega), L.zero _ (by omega) (by omega)]; rfl
    rw [getD_of hj hs]
    refine ⟨?_, fun h => absurd h (by omega)⟩
    rw [slotAt, e2]; rfl
theorem laid_some {p : PgM} {j e : Nat} {z b : List Int} (L : Laid p j z e) (hj : j < p.ss.length) (hs : p.ss[j] = some b) (hb : b.length ≤ 400) (he : e ≤ 512) (hr : 16 + 4 * (j + 1) + b.length ≤ e) :
    Laid p (j + 1) (put2 (put2 (layB z (e - b.length) b) (16 + 4 * j) ((e - b.length : Nat) : Int)) (18 + 4 * j) ((b.length : Int) + 1)) (e - b.length) := by
  have hll : (layB z (e - b.length) b).length = 512 := by rw [layB_length (by rw [L.len]; omega), L.len]
  have hfar : ∀ k, (k < 16 + 4 * j ∨ 20 + 4 * j ≤ k) → (k < e - b.length ∨ e ≤ k) → (put2 (put2 (layB z (e - b.length) b) (16 + 4 * j) ((e - b.length : Nat) : Int)) (18 + 4 * j) ((b.length : Int) + 1)).getD k 0 = z.getD k 0 := fun k h1 h2 => by
    rw [put2_far (by omega) (by omega), put2_far (by omega) (by omega), layB_far (by rw [L.len]; omega) (by omega)]
  have h18 : g16 (put2 (put2 (layB z (e - b.length) b) (16 + 4 * j) ((e - b.length : Nat) : Int)) (18 + 4 * j) ((b.length : Int) + 1)) (18 + 4 * j) = (b.length : Int) + 1 := put2_g16 (by rw [put2_length, hll]; omega) (by omega)
  have h16 : g16 (put2 (put2 (layB z (e - b.length) b) (16 + 4 * j) ((e - b.length : Nat) : Int)) (18 + 4 * j) ((b.length : Int) + 1)) (16 + 4 * j) = ((e - b.length : Nat) : Int) := by
    rw [g16_same (put2_far (by omega) (by omega)) (put2_far (by omega) (by omega)), put2_g16 (by rw [hll]; omega) (by omega)]
  have hdat : ∀ k, k < b.length → (put2 (put2 (layB z (e - b.length) b) (16 + 4 * j) ((e - b.length : Nat) : Int)) (18 + 4 * j) ((b.length : Int) + 1))[(e - b.length) + k]? = b[k]? := fun k hk => by
    rw [← layB_in (ys := z) (at_ := e - b.length) (by rw [L.len]; omega) hk]
    exact get_same (by rw [put2_length, put2_length]) (by rw [put2_far (by omega) (by omega), put2_far (by omega) (by omega)])
  have hln : (put2 (put2 (layB z (e - b.length) b) (16 + 4 * j) ((e - b.length : Nat) : Int)) (18 + 4 * j) ((b.length : Int) + 1)).length = 512 := by rw [put2_length, put2_length, hll]
  generalize put2 (put2 (layB z (e - b.length) b) (16 + 4 * j) ((e - b.length : Nat) : Int)) (18 + 4 * j) ((b.length : Int) + 1) = z2 at *
  refine ⟨hln, fun i hi => ?_, fun k hk => by rw [hfar k (by omega) (by omega)]; exact L.head k hk, fun k h1 h2 => by rw [hfar k (by omega) (by omega)]; exact L.zero k (by omega) (by omega)⟩
  by_cases hij : i < j
  · obtain ⟨q1, q2⟩ := L.slot i hij
    have e18 : g16 z2 (18 + 4 * i) = g16 z (18 + 4 * i) := g16_same (hfar _ (by omega) (by omega)) (hfar _ (by omega) (by omega))
    have e16 : g16 z2 (16 + 4 * i) = g16 z (16 + 4 * i) := g16_same (hfar _ (by omega) (by omega)) (hfar _ (by omega) (by omega))
    rw [e18, e16]
    refine ⟨?_, fun h => by have := q2 h; omega⟩
    rw [← q1]
    exact slotAt_same (hln.trans L.len.symm) (fun k h1 h2 => hfar k (by omega) (by omega)) (fun h k hk => by have := q2 h; exact hfar k (by omega) (by omega))
  · obtain rfl : i = j := by omega
    rw [getD_of hj hs, slotAt, h16, h18]
    refine ⟨?_, fun _ => by omega⟩
    rw [if_neg (by omega), if_neg (by omega)]
    congr 2
    refine List.ext_getElem? fun k => ?_
    rw [show ((b.length : Int) + 1 - 1).toNat = b.length from by omega, Int.toNat_natCast]
    by_cases hk : k < b.length
    · rw [List.getElem?_take_of_lt hk, List.getElem?_drop, hdat k hk]
    · rw [List.getElem?_eq_none (by rw [List.length_take]; omega), List.getElem?_eq_none (by omega)]
theorem laid_upto (p : PgM) (hz : ∀ s ∈ p.ss, slotLen s ≤ 400) (hu : usedOf p.ss ≤ 512) : ∀ j, j ≤ p.ss.length → Laid p j (bytesUpTo p j).1 (bytesUpTo p j).2 := by
  intro j
  induction j with
  | zero =>
    intro _
    exact ⟨headRow_length p, fun i h => absurd h (by omega), fun k _ => rfl, fun k h _ => headRow_zero p k (by omega)⟩
  | succ j ih =>
    intro hj
    have L := ih (by omega)
    have he := bytesUpTo_end p j (by omega)
    have hst := sum_take p.ss j (by omega)
    have hle : ((p.ss.take (j + 1)).map slotLen).sum ≤ (p.ss.map slotLen).sum := by
      conv => rhs; rw [← List.take_append_drop (j + 1) p.ss]
      rw [List.map_append, List.sum_append]; omega
    have hsl : slotLen p.ss[j] ≤ 400 := hz _ (List.getElem_mem _)
    rw [usedOf] at hu
    rw [bytesUpTo]
    cases hs : p.ss[j] with
    | none =>
      rw [getD_of (by omega) hs]
      rw [hs] at hst
      exact laid_none (z := (bytesUpTo p j).1) (e := (bytesUpTo p j).2) L (by omega) hs (by simp only [slotLen, Option.getD_none, List.length_nil] at hst; omega)
    | some b =>
      rw [getD_of (by omega) hs]
      rw [hs] at hst hsl
      simp only [slotLen, Option.getD_some] at hst hsl
      exact laid_some L (by omega) hs hsl (by omega) (by omega)
theorem bytesOf_length (p : PgM) (hu : usedOf p.ss ≤ 512) : (bytesOf p).length = 512 := by
  rw [bytesOf, put4_length, bytesUpTo_length p hu _ (Nat.le_refl _)]
theorem bytesOf_laid (p : PgM) (hz : ∀ s ∈ p.ss, slotLen s ≤ 400) (hu : usedOf p.ss ≤ 512) : (∀ i, i < p.ss.length → slotAt (bytesOf p) i = some (p.ss.getD i none)) ∧ ∀ k, k < 12 → (bytesOf p).getD k 0 = (headRow p).getD k 0 := by
  have L := laid_upto p hz hu _ (Nat.le_refl _)
  refine ⟨fun i hi => ?_, fun k hk => by rw [bytesOf, put4_far (by omega)]; exact L.head k (by omega)⟩
  obtain ⟨q1, q2⟩ := L.slot i hi
  have he := bytesUpTo_end p _ (Nat.le_refl _)
  rw [List.take_length] at he
  rw [usedOf] at hu
  rw [← q1]
  exact slotAt_same (by rw [bytesOf, put4_length]) (fun k h1 h2 => by rw [bytesOf, put4_far (by omega)]) (fun h k hk => by have := q2 h; rw [bytesOf, put4_far (by omega)])
/-- a page that may lie on a disk -/
structure PgM.Good (p : PgM) : Prop where
  kind : 0 ≤ p.kind ∧ p.kind < 256
  id : 0 ≤ p.id ∧ p.id < 4294967296
  len : p.ss.length ≤ 60
  size : ∀ s ∈ p.ss, slotLen s ≤ 400
  used : usedOf p.ss ≤ 512
  last : p.ss.getLast? ≠ some none
theorem decSlots_of {z : List Int} {ss : List (Option (List Int))} (h : ∀ i, i < ss.length → slotAt z i = some (ss.getD i none)) : ∀ j, j ≤ ss.length → decSlots z j = some (ss.take j) := by
  intro j
  induction j with
  | zero => intro _; rfl
  | succ j ih =>
    intro hj
    rw [decSlots, ih (by omega), h j (by omega), getD_of (by omega) rfl, List.take_succ_eq_append_getElem (by omega)]
    rfl
/-- what Bytes writes Parse reads -/
theorem parseOf_bytesOf (p : PgM) (h : p.Good) : parseOf (bytesOf p) = some p := by
  obtain ⟨hs, hh⟩ := bytesOf_laid p h.size h.used
  have b1 : (bytesOf p).getD 1 0 = (p.ss.length : Int) := by
    have := h.len
    rw [hh 1 (by omega), headRow, put4_far (by omega), set_at (by rw [List.length_set, List.length_replicate]; omega)]
    omega
  have b0 : (bytesOf p).getD 0 0 = p.kind := by
    have := h.kind
    rw [hh 0 (by omega), headRow, put4_far (by omega), set_far (by omega), set_at (by rw [List.length_replicate]; omega)]
    omega
  have bi : g16 (bytesOf p) 2 + 65536 * g16 (bytesOf p) 4 = p.id := by
    rw [g16_same (o := 2) (hh 2 (by omega)) (hh 3 (by omega)), g16_same (o := 4) (hh 4 (by omega)) (hh 5 (by omega)), headRow]
    exact put4_g16 (by rw [List.length_set, List.length_set, List.length_replicate]; omega) h.id
  have hp : pageOf (bytesOf p) p.ss = p := by rw [pageOf, b0, bi]
  have hl := h.len
  rw [parseOf, b1, if_neg (by omega), Int.toNat_natCast, decSlots_of hs _ (Nat.le_refl _), List.take_length]
  have hm : pageMay (bytesOf p) p.ss = true := by
    rw [pageMay, hp]
    simp [h.used, h.last]
  rw [Option.bind_some, if_pos hm, hp]
end Go.Proofs.YthppgchmamonnaaGreatDoor
