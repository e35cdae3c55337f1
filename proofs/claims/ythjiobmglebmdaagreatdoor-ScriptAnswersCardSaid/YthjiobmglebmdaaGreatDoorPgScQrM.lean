/- Queries as texts, in plain words: which points a text names; like texts are of like queries. -/
import Derived.Test.YthjiobmglebmdaaGreatDoorPgScObj
import Derived.Test.YthjiobmglebmdaaGreatDoorPgScBackM
namespace Go.Proofs.YthjiobmglebmdaaGreatDoor
open Go.RowKit
open Go.Proofs.YthjiobmglebmdaaGreatDoor.Geo Go.Proofs.YthjiobmglebmdaaGreatDoor.Txt

def qrWord (k : Int) : List UInt8 := if k = 1 then wMeets else if k = 2 then wInside else if k = 3 then wHas else wCross
/-- the points that a query's text names -/
def qrPts (q : Qr) : List Pt := if q.kind = 1 then [q.box.lo, q.box.hi] else if q.kind = 2 then [q.box.lo, q.box.hi] else if q.kind = 3 then [q.box.lo] else q.ring
theorem qrWords_eq (q : Qr) : qrWords q = qrWord q.kind :: (qrPts q).map ptTxt := by
  unfold qrWords qrWord qrPts
  by_cases h1 : q.kind = 1
  · simp only [h1, if_true]
  · by_cases h2 : q.kind = 2
    · simp only [h2, if_true]; rfl
    · by_cases h3 : q.kind = 3
      · simp only [h3, if_true]; rfl
      · simp only [h1, h2, h3, if_false]
theorem qrWord_free (k : Int) : (32 : UInt8) ∉ qrWord k := by
  unfold qrWord
  by_cases h1 : k = 1
  · rw [if_pos h1]; decide
  · rw [if_neg h1]
    by_cases h2 : k = 2
    · rw [if_pos h2]; decide
    · rw [if_neg h2]
      by_cases h3 : k = 3
      · rw [if_pos h3]; decide
      · rw [if_neg h3]; decide
theorem qrWord_ne (k : Int) : qrWord k ≠ [] := by
  unfold qrWord
  by_cases h1 : k = 1
  · rw [if_pos h1]; decide
  · rw [if_neg h1]
    by_cases h2 : k = 2
    · rw [if_pos h2]; decide
    · rw [if_neg h2]
      by_cases h3 : k = 3
      · rw [if_pos h3]; decide
      · rw [if_neg h3]; decide
theorem sp_qrText {q : Qr} (h : QrOk q) : sp (qrText q) = qrWord q.kind :: (qrPts q).map ptTxt := by
  rw [qrText_is h, qrWords_eq]
  exact sp_join _ (by simp) (by
    intro x hx
    simp only [List.mem_cons, List.mem_map] at hx
    rcases hx with rfl | ⟨p, _, rfl⟩
    · exact qrWord_free _
    · exact ptTxt_free p)
theorem qrPts_ok {q : Qr} (h : QrOk q) : ∀ p ∈ qrPts q, ok p = true := by
  unfold qrPts
  rcases h with ⟨h1, h⟩ | ⟨h3, h⟩ | ⟨h4, h⟩
  · have e : (if q.kind = 1 then [q.box.lo, q.box.hi] else if q.kind = 2 then [q.box.lo, q.box.hi] else if q.kind = 3 then [q.box.lo] else q.ring) = [q.box.lo, q.box.hi] := by
      rcases h1 with h1 | h1 <;> simp [h1]
    rw [e]
    intro p hp
    simp at hp
    rcases hp with rfl | rfl
    · exact h.1
    · exact h.2.1
  · have e : (if q.kind = 1 then [q.box.lo, q.box.hi] else if q.kind = 2 then [q.box.lo, q.box.hi] else if q.kind = 3 then [q.box.lo] else q.ring) = [q.box.lo] := by simp [h3]
    rw [e]
    intro p hp
    simp at hp
    rw [hp]; exact h
  · have e : (if q.kind = 1 then [q.box.lo, q.box.hi] else if q.kind = 2 then [q.box.lo, q.box.hi] else if q.kind = 3 then [q.box.lo] else q.ring) = q.ring := by simp [h4]
    rw [e]
    exact h.2.2.1
theorem qrPts_len {q : Qr} (h : QrOk q) : 1 ≤ (qrPts q).length ∧ (qrPts q).length ≤ 64 := by
  unfold qrPts
  rcases h with ⟨h1 | h1, h⟩ | ⟨h3, h⟩ | ⟨h4, h⟩
  · simp [h1]
  · simp [h1]
  · simp [h3]
  · simp only [h4]
    have a := h.1
    have b := h.2.1
    constructor
    · show 1 ≤ q.ring.length; omega
    · show q.ring.length ≤ 64; omega
theorem qrText_ne {q : Qr} (h : QrOk q) : qrText q ≠ [] := by
  intro e
  have := sp_qrText h
  rw [e] at this
  simp only [sp, List.cons.injEq] at this
  exact qrWord_ne _ this.1.symm
theorem qrText_iff {q : Qr} : qrText q ≠ [] ↔ QrOk q := ⟨fun h => Classical.byContradiction fun hn => h (qrText_no hn), qrText_ne⟩
theorem qrWord_inj {a b : Qr} (ha : QrOk a) (hb : QrOk b) (h : qrWord a.kind = qrWord b.kind) : a.kind = b.kind := by
  rcases ha.four with h1 | h1 | h1 | h1 <;> rcases hb.four with h2 | h2 | h2 | h2 <;> rw [h1, h2] at h ⊢ <;> exact absurd h (by decide)
/-- like texts: like kinds, like points -/
theorem qrText_inj {a b : Qr} (ha : QrOk a) (hb : QrOk b) (h : qrText a = qrText b) : a.kind = b.kind ∧ qrPts a = qrPts b := by
  have e : qrWord a.kind :: (qrPts a).map ptTxt = qrWord b.kind :: (qrPts b).map ptTxt := by rw [← sp_qrText ha, ← sp_qrText hb, h]
  rw [List.cons.injEq] at e
  exact ⟨qrWord_inj ha hb e.1, pts_inj (qrPts_ok ha) (qrPts_ok hb) e.2⟩
/-- the query of a kind and of points -/
def qrOf (k : Int) (p : List Pt) : Qr :=
  if k = 4 then ⟨4, ⟨(0, 0), (0, 0)⟩, p⟩ else if k = 3 then ⟨3, ⟨p.headD (0, 0), (0, 0)⟩, []⟩ else ⟨k, ⟨p.headD (0, 0), p.getLastD (0, 0)⟩, []⟩
theorem qrOf_ok {q : Qr} (h : QrOk q) : QrOk (qrOf q.kind (qrPts q)) ∧ qrText (qrOf q.kind (qrPts q)) = qrText q ∧ (qrOf q.kind (qrPts q)).kind = q.kind := by
  have hw : qrWords (qrOf q.kind (qrPts q)) = qrWords q := by
    rcases h with ⟨h1 | h1, h⟩ | ⟨h3, h⟩ | ⟨h4, h⟩
    · simp [qrOf, qrPts, qrWords, h1]
    · simp [qrOf, qrPts, qrWords, h1]
    · simp [qrOf, qrPts, qrWords, h3]
    · simp [qrOf, qrPts, qrWords, h4]
  have hk : (qrOf q.kind (qrPts q)).kind = q.kind := by
    rcases h with ⟨h1 | h1, h⟩ | ⟨h3, h⟩ | ⟨h4, h⟩
    · simp [qrOf, h1]
    · simp [qrOf, h1]
    · simp [qrOf, h3]
    · simp [qrOf, h4]
  have ho : QrOk (qrOf q.kind (qrPts q)) := by
    rcases h with ⟨h1 | h1, h⟩ | ⟨h3, h⟩ | ⟨h4, h⟩
    · refine (qr12 (by simp [qrOf, h1])).2 ?_
      simpa [qrOf, qrPts, h1] using h
    · refine (qr12 (by simp [qrOf, h1])).2 ?_
      simpa [qrOf, qrPts, h1] using h
    · refine (qr3 (by simp [qrOf, h3])).2 ?_
      simpa [qrOf, qrPts, h3] using h
    · refine (qr4 (by simp [qrOf, h4])).2 ?_
      simpa [qrOf, qrPts, h4] using h
  exact ⟨ho, by rw [qrText_is ho, qrText_is h, hw], hk⟩
end Go.Proofs.YthjiobmglebmdaaGreatDoor
