/- The document's reading of a query, in plain words. -/
import Derived.Test.YthjiobmglebmdaaGreatDoorPgScParseQ
namespace Go.Proofs.YthjiobmglebmdaaGreatDoor
open Go.RowKit
open Go.Proofs.YthjiobmglebmdaaGreatDoor.Geo Go.Proofs.YthjiobmglebmdaaGreatDoor.Txt

/-- the query that the document makes of a word's kind and the points behind it -/
def docQ (k : Int) (l : List Pt) : Qr :=
  if k = 4 then ⟨4, ⟨(0, 0), (0, 0)⟩, l⟩ else
  match l with
  | [p] => ⟨k, ⟨p, (0, 0)⟩, []⟩
  | [p, q] => ⟨k, ⟨p, q⟩, []⟩
  | _ => ⟨k, ⟨(0, 0), (0, 0)⟩, []⟩
theorem docQ_kind (k : Int) (l : List Pt) : (docQ k l).kind = k := by
  unfold docQ
  split
  · rename_i h; exact h.symm
  · split <;> rfl
theorem docQ_of {q : Qr} (h : QrOk q) : docQ q.kind (qrPts q) = qrOf q.kind (qrPts q) := by
  rcases h with ⟨h1 | h1, h⟩ | ⟨h3, h⟩ | ⟨h4, h⟩
  · simp [docQ, qrOf, qrPts, h1]
  · simp [docQ, qrOf, qrPts, h1]
  · simp [docQ, qrOf, qrPts, h3]
  · simp [docQ, qrOf, qrPts, h4]
/-- whatever is a query's text is read as that query -/
theorem docQ_other {s : List UInt8} {t : List (List UInt8)} {k : Int} (hk : k = 1 ∨ k = 2 ∨ k = 3 ∨ k = 4) (hs : sp s = qrWord k :: t) {l : List Pt} {b : Bool} (hp : PtsRes t l b) {q : Qr} (hq : QrOk q) (he : qrText q = s) :
    docQ k l = qrOf q.kind (qrPts q) ∧ qrText (docQ k l) = s := by
  have := qr_words hq he
  rw [hs, List.cons.injEq] at this
  have hkk : k = q.kind := by
    have hw := this.1
    rcases hq.four with e | e | e | e <;> rcases hk with rfl | rfl | rfl | rfl <;> rw [e] at hw ⊢ <;> exact absurd hw (by decide)
  obtain ⟨e1, -⟩ := hp (qrPts q) (qrPts_ok hq) this.2
  subst hkk e1
  exact ⟨docQ_of hq, by rw [docQ_of hq, (qrOf_ok hq).2.1, he]⟩
end Go.Proofs.YthjiobmglebmdaaGreatDoor
