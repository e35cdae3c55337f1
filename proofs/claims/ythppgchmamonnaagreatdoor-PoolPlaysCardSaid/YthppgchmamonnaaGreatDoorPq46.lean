/- The law of both pools: does, kind Crash. -/
import Derived.Test.YthppgchmamonnaaGreatDoorPq45
namespace Go.Proofs.YthppgchmamonnaaGreatDoor
open Go.RowKit
theorem joinM {α β : Type} {G : Prop} {P F : α → β → Prop} (h2 : (∀ a b, F a b → P a b) → G) (h1 : ∀ a b, F a b → P a b) : G := h2 h1
theorem joinP {G P : Prop} (h2 : P → G) (h1 : P) : G := h2 h1
theorem reads_two (w : World) (e : TypeId) (u v : Value) : Reads (w.alloc (.cells #[u, v] e)) (.slice (some ⟨w.heap.size, 0, none⟩) 2 2) [u, v] (From w.heap.size) :=
  .inr ⟨w.heap.size, 0, 2, rfl, Nat.le_refl _, by simp, Nat.le_refl _, fun i x hi => by
    match i, hi with
    | 0, hi => simp at hi; subst hi; exact cell_at (heap_alloc_new w _) 0 _ rfl
    | 1, hi => simp at hi; subst hi; exact cell_at (heap_alloc_new w _) 1 _ rfl⟩
theorem RetOpen.lw {w0 w w5 w6 : World} {wb bd md sect n pages room : Nat} {Z0 : Nat → Prop} {e : Ending} (h : RetOpen w0 w5 wb bd md sect n Z0 pages room e w6) (hok : 1 ≤ pages ∧ pages ≤ sect / 8 ∧ 1 ≤ room ∧ room ≤ 100) (hk : Kept (From w0.heap.size) w w5) (hwb : w0.heap.size ≤ wb) : RetLw w0 w wb pages room sect (n + 1) e w6 := by
  obtain ⟨rfl, hk6, h⟩ := h
  rcases h with ⟨-, hno⟩ | ⟨pg, rm, b, mb, m, Z, Z', hp, hr, -, hb, hD, hZ⟩
  · exact absurd ⟨⟨by omega, by omega⟩, by omega, by omega⟩ hno
  · obtain rfl : pages = pg := by omega
    obtain rfl : room = rm := by omega
    have q := RetDoes.lw (w := w6) (e := .returned (.bool true)) ⟨rfl, hD.later⟩ hb hD (ToldAt.nil w6) (fun k hk => ⟨(hZ k hk).1, fun f => f⟩) (fun f => f) (fun k f => f.elim) hwb (Nat.zero_le _)
    exact ⟨rfl, q.2.1, hk.trans hk6 fun x _ e => by have e : x = wb := e; show _ ≤ x; omega⟩
theorem Dsk.crash_len (d : Dsk) (keep : List Bool) (torn : Int) : (d.crash keep torn).good.length = d.good.length := by simp only [Dsk.crash, bites_length]
set_option maxRecDepth 100000 in
set_option maxHeartbeats 8000000 in
theorem does_crash (w0 w : World) (wb bd b mb md m pages room sect n : Nat) (t : List (Nat × Nat)) (Z Z' : Nat → Prop) (x y z : Value) (D : Duo w0 w bd b mb md m pages room sect n t Z Z') (hZb : ∀ x, (Z x ∨ Z' x) → x ≠ wb)
    (hw : w.heap[wb]? = some (.cells (wCells bd (.pointer (some ⟨b, 0, none⟩)) md (.pointer (some ⟨m, 0, none⟩)) x y z) 63 (0, 0))) (pg i : Int) (yes : Bool) (hT : Typed w0) (hok : 1 ≤ pages ∧ pages ≤ sect / 8 ∧ 1 ≤ room ∧ room ≤ 100) (hwb : w0.heap.size ≤ wb) :
    Calls Tryz.prog 28 #[.pointer (some ⟨wb, 0, none⟩), stepV 7 pg i yes, .int .i64 pages, .int .i64 room] w (RetLw w0 w wb pages room sect (n + 1)) := by
  obtain ⟨d, P, Q, con, dcon, f, φ, K, K', D, rfl, rfl, rfl, -⟩ := D
  have hwl : wb < w.heap.size := (Array.getElem?_eq_some_iff.1 hw).1
  obtain ⟨wA, hwA⟩ : ∃ wA, w.alloc (.cells #[.int .i64 7, .int .i64 pg, .int .i64 i, .bool yes] 66) = wA := ⟨_, rfl⟩
  have hkA : Kept Nob w wA := hwA ▸ Kept.alloc Nob w _
  obtain ⟨g, hg⟩ : ∃ g, w.heap.size = g := ⟨_, rfl⟩
  have hbA : wA.heap[g]? = some (.cells #[.int .i64 7, .int .i64 pg, .int .i64 i, .bool yes] 66 (0, 0)) := by rw [← hwA, ← hg]; exact heap_alloc_new w _
  have hgl : g < wA.heap.size := (Array.getElem?_eq_some_iff.1 hbA).1
  have hbW : wA.heap[wb]? = some (.cells (wCells bd (.pointer (some ⟨b, 0, none⟩)) md (.pointer (some ⟨m, 0, none⟩)) x y z) 63 (0, 0)) := (hkA.block wb hwl (fun f => f)).trans hw
  have hgw : g ≠ wb := by omega
  have HG : ∀ W, Kept (Just wb) wA W → Hid (W.cell? ⟨g, 0, none⟩ = some (.int .i64 7) ∧ W.cell? ⟨g, 1, none⟩ = some (.int .i64 pg) ∧ W.cell? ⟨g, 2, none⟩ = some (.int .i64 i) ∧ W.cell? ⟨g, 3, none⟩ = some (.bool yes)) := fun W k => Lib.hid (by
    have hb2 := (k.block g hgl (fun e => hgw e)).trans hbA
    exact ⟨cell_at hb2 0 _ rfl, cell_at hb2 1 _ rfl, cell_at hb2 2 _ rfl, cell_at hb2 3 _ rfl⟩)
  have hB := D.byt
  have hO := D.ops
  have hOld := D.old
  have hAp := D.apart
  have hUZ := D.under
  have hUZ' := D.under'
  have hk0 := D.live.kept
  obtain ⟨F, S0, R0, L, hZ⟩ := D.live
  obtain ⟨DR, S1, R1, L', hZ'⟩ := D.dlive
  have hFZ : ∀ k, F k → Z k := fun k h => hZ k (.inl h)
  have hRZ : ∀ k, DR k → Z' k := fun k h => hZ' k (.inr (.inl h))
  have hmdZ : Z' md := hZ' md (.inr (.inr (.inr (.inl rfl))))
  have HD := Lib.hid (L.disk.kept hkA (fun _ _ f => f))
  have HM := Lib.hid (L'.disk.kept hkA (fun f => f) (fun _ _ f => f))
  have HFw : Hid (∀ k, F k → k ≠ wb) := Lib.hid fun k h => hZb k (.inl (hFZ k h))
  have HRw : Hid (∀ k, DR k → k ≠ wb ∧ w0.heap.size ≤ k ∧ k < w.heap.size) := Lib.hid fun k h => ⟨hZb k (.inr (hRZ k h)), hOld k (.inr (hRZ k h)), hUZ' k (hRZ k h)⟩
  have hmw : md ≠ wb := hZb md (.inr hmdZ)
  have HB := Lib.hid hB
  have HO := Lib.hid hO
  have HOk := Lib.hid hok
  have HT := Lib.hid hT
  have HKA := Lib.hid hkA
  have HK0 := Lib.hid hk0
  have HBW := Lib.hid hbW
  have HWb := Lib.hid hwb
  have HWl := Lib.hid hwl
  have hsA := hkA.size
  have HsA := Lib.hid hsA
  clear hgl hbA hbW hw hZb hkA hok hT hwb hwl hB hO hOld hAp hUZ hUZ' hk0 hFZ hRZ hmdZ hZ hZ' L L' D hsA
  have a0 : wA.cell? ⟨g, 0, none⟩ = some (.int .i64 7) := (HG wA (Kept.refl _ _)).out.1
  unfold stepV
  go_enter Tryz.func28, Tryz.ntmps28
  go_wp2_with fail
  clear a0 hwA hg
  refine wp_region_held_drew (S := (fun W => Kept (Just wb) wA W)) (by kernel_rfl) ?_ (fun hHeld => ?_)
  · exact Kept.drew _ _
  refine take_in (v := ?_) 0 (some 243) ?_ ?_
  case refine_2 => intro w hSw; go_simp; try with_reducible rfl
  try simp only [putS]
  refine take_in (v := ?_) 1 (some 244) ?_ ?_
  case refine_2 => intro w hSw; go_simp; try with_reducible rfl
  try simp only [putS]
  refine take_in (v := ?_) 2 (some 245) ?_ ?_
  case refine_2 => intro w hSw; go_simp; try with_reducible rfl
  try simp only [putS]
  refine take_in (v := ?_) 3 (some 246) ?_ ?_
  case refine_2 => intro w hSw; go_simp; try with_reducible rfl
  try simp only [putS]
  refine take_in (v := ?_) 5 (some 248) ?_ ?_
  case refine_2 => intro w hSw; go_simp; try with_reducible rfl
  try simp only [putS]
  refine take_in (v := ?_) 6 (some 249) ?_ ?_
  case refine_2 => intro w hSw; (try dsimp only at hSw); obtain ⟨b0, b1, b2, b3⟩ := (HG w hSw).out; go_simp; try with_reducible rfl
  try simp only [putS]
  refine take_in (v := ?_) 8 (some 251) ?_ ?_
  case refine_2 => intro w hSw; go_simp; try with_reducible rfl
  try simp only [putS]
  refine take_in (v := ?_) 9 (some 252) ?_ ?_
  case refine_2 => intro w hSw; (try dsimp only at hSw); obtain ⟨b0, b1, b2, b3⟩ := (HG w hSw).out; go_simp; try with_reducible rfl
  try simp only [putS]
  generalize hvS : wA.drew = vS at *
  have HKv : Hid (Kept Nob wA vS) := Lib.hid (hvS ▸ Kept.drew Nob wA)
  clear hvS
  apply joinM (F := fun (rg : Nat) (W : World) => Hid (Kept Nob wA W) ∧ Kept (Just wb) wA W ∧ Hid (Reads W (.slice (some ⟨rg, 0, none⟩) 2 2) [.bool yes, .bool true] (From wA.heap.size)))
  case h2 =>
    intro st
    refine wpAnyH_ready (rs := [4, 7]) (by kernel_rfl) (by simp) ?_
    refine AllReadyH.cons (o := _) rfl (fun K hK => ?_) (AllReadyH.cons (o := _) rfl (fun K hK => ?_) AllReadyH.nil)
    · have HKn := HKv
      have c0 : vS.cell? ⟨wb, 0, none⟩ = some (.pointer (some ⟨bd, 0, none⟩)) := cell_at ((HKn.out.block wb (Array.getElem?_eq_some_iff.1 HBW.out).1 (fun f => f)).trans HBW.out) 0 _ rfl
      go_simp
      refine hK.out _ _ hHeld (fun hHeld => ?_)
      clear hK K c0
      try simp only [putS]
      refine wpAnyH_ready (rs := [7]) (by kernel_rfl) (by simp) ?_
      refine AllReadyH.cons (o := _) rfl (fun K hK => ?_) AllReadyH.nil
      go_simp
      have ka := Kept.alloc Nob vS (.cells #[.bool yes, .bool true] 4)
      have HKm := Lib.hid (HKn.out.then ka)
      have HRd := Lib.hid ((reads_two vS 4 (.bool yes) (.bool true)).mono (G := From wA.heap.size) fun k _ h => Nat.le_trans HKn.out.size h)
      refine hK.out _ _ (hHeld.then ka) (fun hHeld => ?_)
      clear hK K
      try simp only [putS]
      generalize vS.alloc (.cells #[.bool yes, .bool true] 4) = W1 at *
      generalize vS.heap.size = rg at *
      exact st rg W1 ⟨HKm, hHeld, HRd⟩
    · have HKn := HKv
      go_simp
      have ka := Kept.alloc Nob vS (.cells #[.bool yes, .bool true] 4)
      have HKm := Lib.hid (HKn.out.then ka)
      have HRd := Lib.hid ((reads_two vS 4 (.bool yes) (.bool true)).mono (G := From wA.heap.size) fun k _ h => Nat.le_trans HKn.out.size h)
      refine hK.out _ _ (hHeld.then ka) (fun hHeld => ?_)
      clear hK K
      try simp only [putS]
      clear HKn
      have HKn := HKm
      refine wpAnyH_ready (rs := [4]) (by kernel_rfl) (by simp) ?_
      refine AllReadyH.cons (o := _) rfl (fun K hK => ?_) AllReadyH.nil
      have c0 : (vS.alloc (.cells #[.bool yes, .bool true] 4)).cell? ⟨wb, 0, none⟩ = some (.pointer (some ⟨bd, 0, none⟩)) := cell_at ((HKn.out.block wb (Array.getElem?_eq_some_iff.1 HBW.out).1 (fun f => f)).trans HBW.out) 0 _ rfl
      go_simp
      refine hK.out _ _ hHeld (fun hHeld => ?_)
      clear hK K c0
      try simp only [putS]
      generalize vS.alloc (.cells #[.bool yes, .bool true] 4) = W1 at *
      generalize vS.heap.size = rg at *
      exact st rg W1 ⟨HKm, hHeld, HRd⟩
  case h1 =>
    intro rg W ⟨HKm, hHeld, HRd⟩
    refine wpAnyH_ready (rs := [10]) (by kernel_rfl) (by simp) ?_
    refine AllReadyH.cons (o := _) rfl (fun K hK => ?_) AllReadyH.nil
    go_simp
    refine (disk_crash W bd d F (HD.out.kept HKm.out (fun _ _ f => f)) (.slice (some ⟨rg, 0, none⟩) 2 2) [yes, true] (From wA.heap.size) HRd.out (by simp) i).mono ?_
    rintro e w2 ⟨b1, rfl, hd2, hk2⟩
    have HD2 := Lib.hid hd2
    clear hd2
    have hb2 := (hk2.block wb (by have := HKm.out.size; have := (Array.getElem?_eq_some_iff.1 HBW.out).1; omega) (fun f => f)).trans ((HKm.out.block wb (Array.getElem?_eq_some_iff.1 HBW.out).1 (fun f => f)).trans HBW.out)
    have HB2 := Lib.hid hb2
    have HKr := Lib.hid (HKm.out.then hk2)
    clear hb2
    try go_wp2_with fail
    refine hK.out _ _ (hHeld.then hk2) (fun hHeld => ?_)
    clear hK K
    try simp only [putS]
    refine take_in (v := ?_) 11 (some 254) ?_ ?_
    case refine_2 => intro w hSw; go_simp; try with_reducible rfl
    try simp only [putS]
    refine take_in (v := ?_) 12 (some 255) ?_ ?_
    case refine_2 => intro w hSw; go_simp; try with_reducible rfl
    try simp only [putS]
    refine wpAnyH_ready (rs := [13]) (by kernel_rfl) (by simp) ?_
    refine AllReadyH.cons (o := _) rfl (fun K hK => ?_) AllReadyH.nil
    have c0 := cell_at HB2.out 0 _ rfl
    have f0 := frozen_at HB2.out 0
    go_simp
    refine hK.out _ _ (hHeld.trans' (kept1 _ wb 0 _)) (fun hHeld => ?_)
    clear hK K c0 f0
    try simp only [putS]
    refine wpAnyH_done (by kernel_rfl) ?_ _
    have hb3 := heap_set w2 wb 0 _ _ (.pointer (some ⟨b1, 0, none⟩)) HB2.out
    have k3 := kept1 w2 wb 0 (.pointer (some ⟨b1, 0, none⟩))
    have HK3 : Hid (Kept (Just wb) wA (w2.setCell ⟨wb, 0, none⟩ (.pointer (some ⟨b1, 0, none⟩)))) := Lib.hid hHeld
    have hs2 := HKm.out.size
    have HD3 := Lib.hid (HD2.out.kept k3 (fun k hk e => by have hk := hk.1; have e : k = wb := e; have := (Array.getElem?_eq_some_iff.1 HBW.out).1; omega))
    generalize hFe : (fun k => W.heap.size ≤ k ∧ k < w2.heap.size) = F3 at HD3
    have hF3 : ∀ k, F3 k → wA.heap.size ≤ k ∧ k < (w2.setCell ⟨wb, 0, none⟩ (.pointer (some ⟨b1, 0, none⟩))).heap.size := fun k h => by
      rw [← hFe] at h
      exact ⟨by have h := h.1; omega, by rw [set_size]; exact h.2⟩
    have HF3 := Lib.hid hF3
    clear hFe
    have HB3 : Hid ((w2.setCell ⟨wb, 0, none⟩ (.pointer (some ⟨b1, 0, none⟩))).heap[wb]? = some (.cells (wCells b1 (.pointer (some ⟨b, 0, none⟩)) md (.pointer (some ⟨m, 0, none⟩)) x y z) 63 (0, 0))) := Lib.hid (hb3.trans rfl)
    generalize w2.setCell ⟨wb, 0, none⟩ (.pointer (some ⟨b1, 0, none⟩)) = w3 at *
    clear hb3 k3 hs2 hF3 HD2 HB2 HKr HRd HKm hk2 hHeld HKv
    go_upto_region 33 with fail
    refine wp_region_held_drew (S := (fun W => Kept (Just wb) wA W)) (by kernel_rfl) ?_ (fun hHeld => ?_)
    · exact HK3.out.trans' (Kept.drew _ _)
    refine take_in (v := ?_) 0 (some 256) ?_ ?_
    case refine_2 => intro w hSw; go_simp; try with_reducible rfl
    try simp only [putS]
    refine take_in (v := ?_) 1 (some 257) ?_ ?_
    case refine_2 => intro w hSw; go_simp; try with_reducible rfl
    try simp only [putS]
    refine take_in (v := ?_) 2 (some 258) ?_ ?_
    case refine_2 => intro w hSw; go_simp; try with_reducible rfl
    try simp only [putS]
    refine take_in (v := ?_) 3 (some 259) ?_ ?_
    case refine_2 => intro w hSw; go_simp; try with_reducible rfl
    try simp only [putS]
    refine take_in (v := ?_) 5 (some 261) ?_ ?_
    case refine_2 => intro w hSw; go_simp; try with_reducible rfl
    try simp only [putS]
    refine take_in (v := ?_) 6 (some 262) ?_ ?_
    case refine_2 => intro w hSw; (try dsimp only at hSw); obtain ⟨b0, b1, b2, b3⟩ := (HG w hSw).out; go_simp; try with_reducible rfl
    try simp only [putS]
    refine take_in (v := ?_) 8 (some 264) ?_ ?_
    case refine_2 => intro w hSw; go_simp; try with_reducible rfl
    try simp only [putS]
    refine take_in (v := ?_) 9 (some 265) ?_ ?_
    case refine_2 => intro w hSw; (try dsimp only at hSw); obtain ⟨b0, b1, b2, b3⟩ := (HG w hSw).out; go_simp; try with_reducible rfl
    try simp only [putS]
    generalize hvS : w3.drew = vS at *
    have HKv : Hid (Kept Nob w3 vS) := Lib.hid (hvS ▸ Kept.drew Nob w3)
    clear hvS
    apply joinM (F := fun (rg : Nat) (W : World) => Hid (Kept Nob w3 W) ∧ Kept (Just wb) wA W ∧ Hid (Reads W (.slice (some ⟨rg, 0, none⟩) 2 2) [.bool yes, .bool true] (From w3.heap.size)))
    case h2 =>
      intro st
      refine wpAnyH_ready (rs := [4, 7]) (by kernel_rfl) (by simp) ?_
      refine AllReadyH.cons (o := _) rfl (fun K hK => ?_) (AllReadyH.cons (o := _) rfl (fun K hK => ?_) AllReadyH.nil)
      · have HKn := HKv
        have c0 : vS.cell? ⟨wb, 2, none⟩ = some (.pointer (some ⟨md, 0, none⟩)) := cell_at ((HKn.out.block wb (Array.getElem?_eq_some_iff.1 HB3.out).1 (fun f => f)).trans HB3.out) 2 _ rfl
        go_simp
        refine hK.out _ _ hHeld (fun hHeld => ?_)
        clear hK K c0
        try simp only [putS]
        refine wpAnyH_ready (rs := [7]) (by kernel_rfl) (by simp) ?_
        refine AllReadyH.cons (o := _) rfl (fun K hK => ?_) AllReadyH.nil
        go_simp
        have ka := Kept.alloc Nob vS (.cells #[.bool yes, .bool true] 4)
        have HKm := Lib.hid (HKn.out.then ka)
        have HRd := Lib.hid ((reads_two vS 4 (.bool yes) (.bool true)).mono (G := From w3.heap.size) fun k _ h => Nat.le_trans HKn.out.size h)
        refine hK.out _ _ (hHeld.then ka) (fun hHeld => ?_)
        clear hK K
        try simp only [putS]
        generalize vS.alloc (.cells #[.bool yes, .bool true] 4) = W1 at *
        generalize vS.heap.size = rg at *
        exact st rg W1 ⟨HKm, hHeld, HRd⟩
      · have HKn := HKv
        go_simp
        have ka := Kept.alloc Nob vS (.cells #[.bool yes, .bool true] 4)
        have HKm := Lib.hid (HKn.out.then ka)
        have HRd := Lib.hid ((reads_two vS 4 (.bool yes) (.bool true)).mono (G := From w3.heap.size) fun k _ h => Nat.le_trans HKn.out.size h)
        refine hK.out _ _ (hHeld.then ka) (fun hHeld => ?_)
        clear hK K
        try simp only [putS]
        clear HKn
        have HKn := HKm
        refine wpAnyH_ready (rs := [4]) (by kernel_rfl) (by simp) ?_
        refine AllReadyH.cons (o := _) rfl (fun K hK => ?_) AllReadyH.nil
        have c0 : (vS.alloc (.cells #[.bool yes, .bool true] 4)).cell? ⟨wb, 2, none⟩ = some (.pointer (some ⟨md, 0, none⟩)) := cell_at ((HKn.out.block wb (Array.getElem?_eq_some_iff.1 HB3.out).1 (fun f => f)).trans HB3.out) 2 _ rfl
        go_simp
        refine hK.out _ _ hHeld (fun hHeld => ?_)
        clear hK K c0
        try simp only [putS]
        generalize vS.alloc (.cells #[.bool yes, .bool true] 4) = W1 at *
        generalize vS.heap.size = rg at *
        exact st rg W1 ⟨HKm, hHeld, HRd⟩
    case h1 =>
      intro rg W ⟨HKm, hHeld, HRd⟩
      refine wpAnyH_ready (rs := [10]) (by kernel_rfl) (by simp) ?_
      refine AllReadyH.cons (o := _) rfl (fun K hK => ?_) AllReadyH.nil
      go_simp
      have hkW : Kept (Just wb) wA W := hHeld
      have HMw := Lib.hid (HM.out.kept hkW hmw (fun k hk e => (HRw.out k hk).1 e))
      refine (doc_crash W md d DR HMw.out (.slice (some ⟨rg, 0, none⟩) 2 2) [yes, true] (From w3.heap.size) HRd.out (by simp) i).mono ?_
      rintro e w4 ⟨md1, R1, rfl, hd4, hg4, hm4, hk2⟩
      have HD4 := Lib.hid hd4
      have HG4 := Lib.hid hg4
      have HM4 := Lib.hid hm4
      clear hd4 hg4 hm4 hkW HMw
      have hb2 := (hk2.block wb (by have := HKm.out.size; have := (Array.getElem?_eq_some_iff.1 HB3.out).1; omega) (fun f => f)).trans ((HKm.out.block wb (Array.getElem?_eq_some_iff.1 HB3.out).1 (fun f => f)).trans HB3.out)
      have HB2 := Lib.hid hb2
      have HKr := Lib.hid (HKm.out.then hk2)
      clear hb2
      try go_wp2_with fail
      refine hK.out _ _ (hHeld.then hk2) (fun hHeld => ?_)
      clear hK K
      try simp only [putS]
      refine take_in (v := ?_) 11 (some 267) ?_ ?_
      case refine_2 => intro w hSw; go_simp; try with_reducible rfl
      try simp only [putS]
      refine take_in (v := ?_) 12 (some 268) ?_ ?_
      case refine_2 => intro w hSw; go_simp; try with_reducible rfl
      try simp only [putS]
      refine wpAnyH_ready (rs := [13]) (by kernel_rfl) (by simp) ?_
      refine AllReadyH.cons (o := _) rfl (fun K hK => ?_) AllReadyH.nil
      have c0 := cell_at HB2.out 2 _ rfl
      have f0 := frozen_at HB2.out 2
      go_simp
      refine hK.out _ _ (hHeld.trans' (kept1 _ wb 2 _)) (fun hHeld => ?_)
      clear hK K c0 f0
      try simp only [putS]
      refine wpAnyH_done (by kernel_rfl) ?_ _
      have hb3 := heap_set w4 wb 2 _ _ (.pointer (some ⟨md1, 0, none⟩)) HB2.out
      have k3 := kept1 w4 wb 2 (.pointer (some ⟨md1, 0, none⟩))
      have hsm := HKm.out.size
      have hsr := HKr.out.size
      have hs3 := HK3.out.size
      have hwlA := (Array.getElem?_eq_some_iff.1 HBW.out).1
      have hR1 : ∀ k, R1 k → k ≠ wb := fun k h e => by
        rcases HG4.out k h with e' | e'
        · exact (HRw.out k e').1 e
        · omega
      have hM1 : w3.heap.size ≤ md1 := Nat.le_trans hsm HM4.out
      have HD5 := Lib.hid (HD4.out.kept k3 (fun e => by have e : md1 = wb := e; omega) (fun k hk e => hR1 k hk e))
      have HF5 := Lib.hid ((HD3.out.kept (HKr.out) (fun _ _ f => f)).kept k3 (fun k hk e => by have := (HF3.out k hk).1; have e : k = wb := e; omega))
      have HB5 : Hid ((w4.setCell ⟨wb, 2, none⟩ (.pointer (some ⟨md1, 0, none⟩))).heap[wb]? = some (.cells (wCells b1 (.pointer (some ⟨b, 0, none⟩)) md1 (.pointer (some ⟨m, 0, none⟩)) x y z) 63 (0, 0))) := Lib.hid (hb3.trans rfl)
      have HK5 : Hid (Kept (Just wb) wA (w4.setCell ⟨wb, 2, none⟩ (.pointer (some ⟨md1, 0, none⟩)))) := Lib.hid hHeld
      have k05 : Kept Nob w0 (w4.setCell ⟨wb, 2, none⟩ (.pointer (some ⟨md1, 0, none⟩))) := (HK0.out.trans' HKA.out).trans HK5.out fun q hq e => by have e : q = wb := e; have := HWb.out; omega
      have HOp := Lib.hid (law_open w0 _ wb b1 md1 n _ F3 R1 HF5.out HD5.out P.pages P.room (HT.out.kept k05 (fun f => f)) (by have := HWb.out; have := cell_lt HT.out; omega) k05 (fun k hk => by have := (HF3.out k hk).1; have := HWb.out; omega)
        (fun k hk => by
          rcases HG4.out k hk with e | e
          · exact (HRw.out k e).2.1
          · have := HWb.out; omega) (by have := HWb.out; omega) HWb.out (fun h => by have := (HF3.out wb h).1; omega) (fun h => hR1 wb h rfl) (by omega)
        (fun k hk hr => by
          have h1 := HF3.out k hk
          rcases HG4.out k hr with e | e
          · have h2 := (HRw.out k e).2.2
            have := HKA.out.size
            omega
          · omega) (fun h => by have := (HF3.out md1 h).2; omega) (HB.out.crash [yes, true] i) (by show (0 : Int) ≤ _; omega) _ _ _ _ _ HB5.out)
      rw [Dsk.crash_len] at HOp
      have HKx := Lib.hid ((HKA.out.mono (G := From w0.heap.size) fun _ _ f => f.elim).trans HK5.out fun q _ e => by have e : q = wb := e; show _ ≤ q; have := HWb.out; omega)
      generalize w4.setCell ⟨wb, 2, none⟩ (.pointer (some ⟨md1, 0, none⟩)) = w5 at *
      clear hb3 k3 hsm hsr hs3 hwlA hR1 hM1 HD5 HF5 HB5 HK5 k05 HD4 HB2 HKr HRd HKm hk2 hHeld HKv HG4 HM4
      go_wp2_with fail
      refine HOp.out.mono ?_
      intro e w6 ho
      have HO6 := Lib.hid (ho.lw HOk.out HKx.out HWb.out)
      obtain ⟨rfl, -⟩ := ho
      go_wp2_with fail
      go_ret
      exact HO6.out
end Go.Proofs.YthppgchmamonnaaGreatDoor
