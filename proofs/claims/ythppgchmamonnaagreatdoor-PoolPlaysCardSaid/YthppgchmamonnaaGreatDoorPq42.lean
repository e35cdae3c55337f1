/- The law of both pools: fresh. The law of both pools: does: what is behind it. -/
import Derived.Test.YthppgchmamonnaaGreatDoorPq40
namespace Go.Proofs.YthppgchmamonnaaGreatDoor
open Go.RowKit
def RetFresh (w : World) (sect : Nat) (pages room : Int) (e : Ending) (w' : World) : Prop :=
  ∃ wb bd md, e = .returned (.tuple #[.pointer (some ⟨wb, 0, none⟩), .bool true]) ∧ w.heap.size ≤ wb ∧ Kept Nob w w' ∧
  ((w'.heap[wb]? = some (.cells (wCells bd (.pointer none) md (.pointer none) (.slice none 0 0) (.slice none 0 0) (.slice none 0 0)) 63 (0, 0))) ∨
   ∃ (pg rm b mb m : Nat) (Z Z' : Nat → Prop), pages = pg ∧ room = rm ∧ (1 ≤ pg ∧ pg ≤ sect / 8 ∧ 1 ≤ rm ∧ rm ≤ 100) ∧ w'.heap[wb]? = some (.cells (wCells bd (.pointer (some ⟨b, 0, none⟩)) md (.pointer (some ⟨m, 0, none⟩)) (.slice none 0 0) (.slice none 0 0) (.slice none 0 0)) 63 (0, 0)) ∧
     Duo w w' bd b mb md m pg rm sect 0 [] Z Z' ∧ ∀ x, (Z x ∨ Z' x) → x ≠ wb)
set_option maxRecDepth 100000 in
set_option maxHeartbeats 4000000 in
theorem law_fresh (w : World) (n : Nat) (h1 : 1 ≤ n) (h2 : n ≤ 8192) (pages room : Int) (hT : Typed w) :
    Calls Tryz.prog 27 #[.int .i64 n, .int .i64 pages, .int .i64 room] w (RetFresh w n pages room) := by
  have hw0 : 0 < w.heap.size := cell_lt hT
  have HT := Lib.hid hT
  clear hT
  go_enter Tryz.func27, Tryz.ntmps27
  go_wp2_with fail
  refine (disk_new w n h1 h2).mono ?_
  rintro e w1 ⟨bd, rfl, hD1, hk1⟩
  have HD1 := Lib.hid hD1
  have HK1 := Lib.hid hk1
  clear hD1 hk1
  go_wp2_with fail
  refine (doc_new w1 n h1 h2).mono ?_
  rintro e w2 ⟨m, R, rfl, hM2, hR2, hm2, hk2⟩
  have hs1 := HK1.out.size
  have HD2 := Lib.hid (HD1.out.kept hk2 (fun _ _ f => f))
  have HK2 := Lib.hid (HK1.out.then hk2)
  have HS2 := Lib.hid hk2.size
  have HM2 := Lib.hid hM2
  have HR2 := Lib.hid hR2
  clear hM2 hR2 hk2
  have ka := Kept.alloc Nob w2 (.cells #[.pointer (some ⟨bd, 0, none⟩), .pointer none, .pointer (some ⟨m, 0, none⟩), .pointer none, .slice none 0 0, .slice none 0 0, .slice none 0 0] 63)
  have hOp := law_open w _ w2.heap.size bd m 0 (Dsk.fresh n) _ R (HD2.out.kept ka (fun _ _ f => f)) (HM2.out.kept ka (fun f => f) (fun _ _ f => f)) pages room ((HT.out.kept HK2.out (fun f => f)).kept ka (fun f => f)) (by have := HK2.out.size; omega) (HK2.out.then ka) (fun x hx => hx.1) (fun x hx => Nat.le_trans hs1 (HR2.out x hx)) (Nat.le_trans hs1 hm2) HK2.out.size (fun f => by have := f.2; have := HS2.out; omega) (fun f => by have := HM2.out.under _ f; omega) (by have := HM2.out.lt; omega)
    (fun x hx hr => by have := hx.2; have := HR2.out x hr; omega) (fun hx => by have := hx.2; omega) (Dsk.Byt.fresh n) (by show (0 : Int) ≤ _; omega) _ _ _ _ _ (heap_alloc_new w2 _)
  have HOp := Lib.hid hOp
  have HKa := Lib.hid ka
  clear hOp ka
  go_wp2_with fail
  refine HOp.out.mono ?_
  rintro e w3 ⟨rfl, hk3, ho⟩
  have HO := Lib.hid ho
  have HK3 := Lib.hid hk3
  clear ho HOp hk3
  go_wp2_with fail
  go_ret2
  have hgl : (Dsk.fresh n).good.length = n := by simp [Dsk.fresh]
  have hs2 := HK2.out.size
  refine ⟨_, bd, m, rfl, hs2, (HK2.out.then HKa.out).trans HK3.out (fun x hx e => by have e : x = w2.heap.size := e; omega), ?_⟩
  rcases HO.out with ⟨hh, -⟩ | ⟨pg, rm, b, mb, q, Z, Z', hp, hr, hok, hh, hd, hz⟩
  · exact .inl hh
  · rw [hgl] at hd hok
    exact .inr ⟨pg, rm, b, mb, q, Z, Z', hp, hr, hok, hh, hd, fun x hx => (hz x hx).1⟩
def stepV (kd pg n : Int) (y : Bool) : Value := .agg #[.int .i64 kd, .int .i64 pg, .int .i64 n, .bool y]
theorem DuoTo.base {w0 w W w' : World} {bd b mb md m pages room sect n : Nat} {t : List (Nat × Nat)} {Z Z' : Nat → Prop} (h : DuoTo w0 W bd b mb md m pages room sect n t Z Z' w') (hk : Kept Nob w W) : DuoTo w0 w bd b mb md m pages room sect n t Z Z' w' := by
  obtain ⟨Z1, Z1', h1, h2, h3, h4⟩ := h
  have hs := hk.size
  exact ⟨Z1, Z1', h1, fun x hx => (h2 x hx).imp (fun e => e) (fun e => by omega), fun x hx => (h3 x hx).imp (fun e => e) (fun e => by omega), hk.nob.trans' h4⟩
theorem DuoTo.nob {w0 w w' w'' : World} {bd b mb md m pages room sect n : Nat} {t : List (Nat × Nat)} {Z Z' : Nat → Prop} (h : DuoTo w0 w bd b mb md m pages room sect n t Z Z' w') (hk : Kept Nob w' w'') : DuoTo w0 w bd b mb md m pages room sect n t Z Z' w'' := by
  obtain ⟨Z1, Z1', ⟨d, P, Q, con, dcon, f, φ, K, K', D, r⟩, h2, h3, h4⟩ := h
  exact ⟨Z1, Z1', ⟨d, P, Q, con, dcon, f, φ, K, K', D.nob hk, r⟩, h2, h3, h4.then hk⟩
theorem DuoTo.keeps {w0 w w' : World} {bd b mb md m pages room sect n : Nat} {t : List (Nat × Nat)} {Z Z' : Nat → Prop} (h : DuoTo w0 w bd b mb md m pages room sect n t Z Z' w') : Kept (fun x => Z x ∨ Z' x) w w' := by
  obtain ⟨Z1, Z1', h1, h2, h3, h4⟩ := h
  exact h4
theorem DuoTo.typed {w0 w w' : World} {bd b mb md m pages room sect n : Nat} {t : List (Nat × Nat)} {Z Z' : Nat → Prop} (h : DuoTo w0 w bd b mb md m pages room sect n t Z Z' w') (hT : Typed w0) : Typed w' := by
  obtain ⟨Z1, Z1', ⟨d, P, Q, con, dcon, f, φ, K, K', D, r⟩, -⟩ := h
  exact hT.kept D.live.kept (fun f => f)
theorem Duo.later {w0 w : World} {bd b mb md m pages room sect n : Nat} {t : List (Nat × Nat)} {Z Z' : Nat → Prop} (h : Duo w0 w bd b mb md m pages room sect n t Z Z') : DuoTo w0 w bd b mb md m pages room sect (n + 1) t Z Z' w := by
  obtain ⟨d, P, Q, con, dcon, f, φ, K, K', D, rfl, rfl, rfl, ht⟩ := h
  exact D.stay ht (Kept.refl _ w)
def RetDoes (w0 w : World) (bd b mb md m pages room sect n : Nat) (t : List (Nat × Nat)) (Z Z' : Nat → Prop) (e : Ending) (w' : World) : Prop :=
  e = .returned (.bool true) ∧ DuoTo w0 w bd b mb md m pages room sect (n + 1) t Z Z' w'
end Go.Proofs.YthppgchmamonnaaGreatDoor
