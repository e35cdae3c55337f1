/- The document's own disk: Read. -/
import Derived.Test.YthppgchmamonnaaGreatDoorPgDoc2
import Derived.Test.YthppgchmamonnaaGreatDoorPgReads
import Derived.Test.YthppgchmamonnaaGreatDoorPgDisk4
namespace Go.Proofs.YthppgchmamonnaaGreatDoor
open Go.RowKit

theorem idx_at (x : Int) : ∀ (l : List Int) (k : Nat), x ∈ l → ∃ i : Nat, idx x l k = ((k + i : Nat) : Int) ∧ l[i]? = some x := by
  intro l
  induction l with
  | nil => intro k h; cases h
  | cons y r ih =>
    intro k h
    unfold idx
    by_cases hx : x = y
    · exact ⟨0, by rw [if_pos hx]; rfl, by simp [hx]⟩
    · obtain ⟨i, h1, h2⟩ := ih (k + 1) (by simpa [hx] using h)
      exact ⟨i + 1, by rw [if_neg hx, h1]; congr 1; omega, by simpa using h2⟩

/-- behind the document's Read that is done -/
def RetDocRead (w : World) (x : List Value) (R : Nat → Prop) (en : Ending) (w' : World) : Prop :=
  ∃ b c, en = .returned (.tuple #[.slice b 64 c, .int .i64 0]) ∧ Reads w' (.slice b 64 c) x (Por R (From w.heap.size)) ∧ Kept Nob w w'

theorem doc_read (w : World) (m : Nat) (d : Dsk) (R : Nat → Prop) (h : DocAt w m d R) (k : Nat) (hk : k < d.good.length) :
    Calls Tryz.prog 90 #[.pointer (some ⟨m, 0, none⟩), .int .i64 k] w (RetDocRead w (d.now.getD k []) R) := by
  have HP0 := doc_place w m d R h k
  obtain ⟨gv, av, nv, gs, ns, left, hb, hR, h1, -, h3, h4, h5, -, -, -, hw, -⟩ := h
  have c0 := cell_at hb 0 _ rfl
  have c2 := cell_at hb 2 _ rfl
  have hgl := h4.1
  have hm := hw.most
  obtain ⟨ga, gc, rfl, -⟩ := h1.shape
  obtain ⟨na, nc, rfl, -⟩ := h3.shape
  have hlt : decide ((gs.length : Int) ≤ (k : Int)) = false := by simp; omega
  have hol := hw.orderLen
  by_cases hmem : (k : Int) ∈ d.order
  · obtain ⟨i, hi, hik⟩ := idx_at (k : Int) d.order 0 hmem
    rw [hi] at HP0
    have HP := Lib.hid HP0
    have hil : i < d.order.length := (List.getElem?_eq_some_iff.1 hik).1
    obtain ⟨bn, on, v, rfl, hv, hc, -⟩ := h3.cell (i := i) (by rw [h5.1]; exact hil)
    have hrow := h5.2 i v k hv hik
    have e64 : (d.now.getD k []).length = 64 := (Dsk.Sectors.getD hw.now (by rw [hw.len]; exact hk)).1
    obtain ⟨a, c, rfl, -⟩ := hrow.shape
    rw [show ((k : Int).toNat) = k from rfl, e64] at hrow hc
    have HR := Lib.hid hrow
    have hnl := h5.1
    have i2 : i < ns.length := by omega
    clear hb hR h1 h3 h4 h5 hw hmem hi hik HP0 hv hrow
    go_enter Tryz.func90, Tryz.ntmps90
    go_wp2_with (go_at_call 110; refine HP.out.mono ?_; rintro e w' ⟨rfl, rfl⟩)
    go_ret2
    exact ⟨_, _, rfl, HR.out.mono (fun j _ q => .inl q), Kept.refl _ _⟩
  · rw [idx_neg _ _ _ hmem] at HP0
    have HP := Lib.hid HP0
    obtain ⟨bg, og, v, rfl, hv, hc, -⟩ := h1.cell (i := k) (by omega)
    have hx : d.good[k]? = some (d.good.getD k []) := by rw [List.getD_eq_getElem?_getD, List.getElem?_eq_getElem hk]; rfl
    have hrow := h4.2 k v _ hv hx
    rw [← hw.calm k hk hmem] at hrow
    have HFull := Lib.hid (doc_full w v _ R hrow)
    have i2 : k < gs.length := by omega
    clear hb hR h1 h3 h4 h5 hw hmem HP0 hv hrow hx
    go_enter Tryz.func90, Tryz.ntmps90
    go_wp2_with (first | (go_at_call 110; refine HP.out.mono ?_; rintro e w' ⟨rfl, rfl⟩) | (go_at_call 98; refine HFull.out.mono ?_; rintro e w2 ⟨b, c, rfl, hr2, hk2⟩))
    go_ret2
    exact ⟨b, c, rfl, hr2, hk2⟩

/-- behind the document's Read that is refused -/
theorem doc_read_bad (w : World) (m : Nat) (d : Dsk) (R : Nat → Prop) (h : DocAt w m d R) (k : Int) (hk : k < 0 ∨ d.good.length ≤ k) :
    Calls Tryz.prog 90 #[.pointer (some ⟨m, 0, none⟩), .int .i64 k] w fun e w' => e = .returned (.tuple #[.slice none 0 0, .int .i64 2]) ∧ w = w' := by
  obtain ⟨gv, av, nv, gs, ns, left, hb, hR, h1, -, h3, h4, h5, -, -, -, hw, -⟩ := h
  have c0 := cell_at hb 0 _ rfl
  obtain ⟨ga, gc, rfl, -⟩ := h1.shape
  have hgl := h4.1
  rw [← hgl] at hk
  clear hb hR h1 h3 h4 h5 hw hgl
  generalize gs.length = n at *
  by_cases hn : k < 0
  · clear hk
    go_enter Tryz.func90, Tryz.ntmps90
    go_wp2
    go_ret2
    exact ⟨rfl, rfl⟩
  · have hge : decide ((n : Int) ≤ k) = true := by simp; omega
    clear hk
    go_enter Tryz.func90, Tryz.ntmps90
    go_wp2
    go_ret2
    exact ⟨rfl, rfl⟩
end Go.Proofs.YthppgchmamonnaaGreatDoor
