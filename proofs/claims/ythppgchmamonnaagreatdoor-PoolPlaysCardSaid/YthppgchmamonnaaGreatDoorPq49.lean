/- The law of both pools: does, kind Insert. -/
import Derived.Test.YthppgchmamonnaaGreatDoorPq04
import Derived.Test.YthppgchmamonnaaGreatDoorPq47
namespace Go.Proofs.YthppgchmamonnaaGreatDoor
open Go.RowKit
theorem blockRow_map (n : Nat) (k : Int) : blockRow n k = ((List.range n).map (blkN k)).map (Value.int .u8) := by simp [blockRow]
theorem blkN_inB (n : Nat) (k : Int) : InB ((List.range n).map (blkN k)) := fun y hy => by
  obtain ⟨i, -, rfl⟩ := List.mem_map.1 hy
  have := blkN_range k i
  omega
set_option maxRecDepth 100000 in
set_option maxHeartbeats 8000000 in
theorem does_insert (w0 w : World) (wb bd b mb md m pages room sect n : Nat) (t : List (Nat × Nat)) (Z Z' : Nat → Prop) (x y z : Value) (D : Duo w0 w bd b mb md m pages room sect n t Z Z') (hZb : ∀ x, (Z x ∨ Z' x) → x ≠ wb)
    (hw : w.heap[wb]? = some (.cells (wCells bd (.pointer (some ⟨b, 0, none⟩)) md (.pointer (some ⟨m, 0, none⟩)) x y z) 63 (0, 0))) (pg i : Int) (yes : Bool) (hT : Typed w0) (hn : n ≤ 1000) (ns : List Int) (X : Nat → Prop) (hrows : ToldAt w x y z t ns X) (hZX : ∀ k, (Z k ∨ Z' k) → k ≠ wb ∧ ¬ X k) (_hXo : ∀ k, X k → w0.heap.size ≤ k ∧ k < w.heap.size) (htn : t.length ≤ n) :
    Calls Tryz.prog 28 #[.pointer (some ⟨wb, 0, none⟩), stepV 5 pg i yes, .int .i64 pages, .int .i64 room] w (RetDoes w0 w bd b mb md m pages room sect n t Z Z') := by
  have HLt := Lib.hid D.later
  obtain ⟨d, P, Q, con, dcon, f, φ, K, K', D, rfl, rfl, rfl, ht⟩ := D
  have hwl : wb < w.heap.size := (Array.getElem?_eq_some_iff.1 hw).1
  obtain ⟨wA, hwA⟩ : ∃ wA, w.alloc (.cells #[.int .i64 5, .int .i64 pg, .int .i64 i, .bool yes] 66) = wA := ⟨_, rfl⟩
  have hkA : Kept Nob w wA := hwA ▸ Kept.alloc Nob w _
  obtain ⟨g, hg⟩ : ∃ g, w.heap.size = g := ⟨_, rfl⟩
  have hbA : wA.heap[g]? = some (.cells #[.int .i64 5, .int .i64 pg, .int .i64 i, .bool yes] 66 (0, 0)) := by rw [← hwA, ← hg]; exact heap_alloc_new w _
  have hgl : g < wA.heap.size := (Array.getElem?_eq_some_iff.1 hbA).1
  have HC : ∀ W, Kept (fun x => Z x ∨ Z' x) wA W → Hid (W.cell? ⟨wb, 0, none⟩ = some (.pointer (some ⟨bd, 0, none⟩)) ∧ W.cell? ⟨wb, 1, none⟩ = some (.pointer (some ⟨b, 0, none⟩)) ∧ W.cell? ⟨wb, 2, none⟩ = some (.pointer (some ⟨md, 0, none⟩)) ∧ W.cell? ⟨wb, 3, none⟩ = some (.pointer (some ⟨m, 0, none⟩)) ∧
      W.cell? ⟨wb, 4, none⟩ = some x ∧ W.cell? ⟨wb, 5, none⟩ = some y ∧ W.cell? ⟨wb, 6, none⟩ = some z ∧ W.cell? ⟨g, 0, none⟩ = some (.int .i64 5) ∧ W.cell? ⟨g, 1, none⟩ = some (.int .i64 pg) ∧ W.cell? ⟨g, 2, none⟩ = some (.int .i64 i) ∧ W.cell? ⟨g, 3, none⟩ = some (.bool yes)) := fun W k => Lib.hid (by
    have hb := (k.block wb (Nat.lt_of_lt_of_le hwl hkA.size) (fun e => hZb wb e rfl)).trans ((hkA.block wb hwl (fun f => f)).trans hw)
    have hb2 := (k.block g hgl (fun e => by have h := e.elim (D.under g) (D.under' g); omega)).trans hbA
    exact ⟨cell_at hb 0 _ rfl, cell_at hb 1 _ rfl, cell_at hb 2 _ rfl, cell_at hb 3 _ rfl, cell_at hb 4 _ rfl, cell_at hb 5 _ rfl, cell_at hb 6 _ rfl, cell_at hb2 0 _ rfl, cell_at hb2 1 _ rfl, cell_at hb2 2 _ rfl, cell_at hb2 3 _ rfl⟩)
  have HD := fun W (k : Kept Nob w W) => Lib.hid (D.nob k)
  have HKA := Lib.hid hkA
  have HT := Lib.hid ht
  have HG := Lib.hid hgl
  have HZZ : Hid (∀ k, (Z k ∨ Z' k) → k < w.heap.size) := Lib.hid fun k hk => hk.elim (D.under k) (D.under' k)
  have HTy := Lib.hid hT
  obtain ⟨X1, X2, X3, o1, o2, o3, -, -, -, hs, hl⟩ := hrows
  have hlt : ns.length ≤ 1000 := by omega
  obtain ⟨xa, xc, rfl, -⟩ := o1.reads.shape
  obtain ⟨ya, yc, rfl, -⟩ := o2.reads.shape
  obtain ⟨za, zc, rfl, -⟩ := o3.reads.shape
  have HR1 := fun W (k : Kept (fun x => Z x ∨ Z' x) wA W) => Lib.hid ((o1.reads.kept hkA (fun _ _ f => f)).kept k (fun q h f => (hZX q f).2 (hs q (.inl h))))
  have HR2 := fun W (k : Kept (fun x => Z x ∨ Z' x) wA W) => Lib.hid ((o2.reads.kept hkA (fun _ _ f => f)).kept k (fun q h f => (hZX q f).2 (hs q (.inr (.inl h)))))
  have HR3 := fun W (k : Kept (fun x => Z x ∨ Z' x) wA W) => Lib.hid ((o3.reads.kept hkA (fun _ _ f => f)).kept k (fun q h f => (hZX q f).2 (hs q (.inr (.inr h)))))
  simp only [List.length_map] at HR1 HR2 HR3 HC
  have HLn := Lib.hid hl
  have HN := Lib.hid hn
  have HSA := Lib.hid hkA.size
  clear hbA hkA hgl hw D ht hT hn hZX _hXo htn o1 o2 o3 hs hZb hl
  unfold stepV
  obtain ⟨a0, a1, a2, a3, a4, a5, a6, b0, b1, b2, b3⟩ := (HC wA (Kept.refl _ _)).out
  go_enter Tryz.func28, Tryz.ntmps28
  go_wp2_with fail
  clear a0 a1 a2 a3 a4 a5 a6 b0 b1 b2 b3 hwA hg
  go_loopw [13] (fun o wr => ∃ iv : Int, -1 ≤ iv ∧ iv < ns.length ∧ o = .int .i64 iv ∧ Kept Nob wA wr) (fun o _ => (intOf o + 1).toNat)
  case atStart => exact ⟨(ns.length : Int) - 1, by omega, by omega, rfl, Kept.refl _ _⟩
  case round =>
    obtain ⟨iv, hv1, hv2, rfl, hkr⟩ := hrel
    have HKr := Lib.hid hkr
    clear hkr
    by_cases h0 : 0 ≤ iv
    · obtain ⟨k, rfl⟩ : ∃ k : Nat, iv = k := ⟨iv.toNat, by omega⟩
      have hkl : k < ns.length := by omega
      have hkt : k < t.length := by have := HLn.out; omega
      obtain ⟨a0, a1, a2, a3, a4, a5, a6, b0, b1, b2, b3⟩ := (HC wr HKr.out.nob).out
      obtain ⟨zb, zo, u, rfl, hu, hc, -⟩ := (HR3 wr HKr.out.nob).out.cell (i := k) (by rw [List.length_map]; exact hkl)
      obtain ⟨v, hvk, rfl⟩ : ∃ v, ns[k]? = some v ∧ u = .int .i64 v := by
        rw [List.getElem?_map] at hu
        obtain ⟨v, h1, h2⟩ := Option.map_eq_some_iff.1 hu
        exact ⟨v, h1, h2.symm⟩
      clear hu hvk h0
      by_cases hv : v = pg
      · have hvb : (v == pg) = true := beq_iff_eq.2 hv
        clear hv
        go_wp2_with fail
        go_quiet (fail)
        go_upto_region 24 with fail
        have HKq := Lib.hid (HKr.out.then (Kept.drewN Nob wr nq))
        clear a0 a1 a2 a3 a4 a5 a6 b0 b1 b2 b3 hc hvb HKr
        generalize wr.drewN nq = wq at *
        obtain ⟨q, hq⟩ : ∃ q : Nat, i % 60 = (q : Int) := ⟨(i % 60).toNat, by omega⟩
        have hq60 : q < 60 := by omega
        have HRo := fun W => Lib.hid (by have h := round_any W i 60 (by omega) (by omega); rw [hq] at h; exact h)
        clear hq
        refine wp_region_held_drew (S := (fun W => Kept (fun x => Z x ∨ Z' x) wA W)) (by kernel_rfl) ?_ (fun hHeld => ?_)
        · exact HKq.out.nob.then (Kept.drew Nob wq)
        refine take_in (v := ?_) 0 (some 181) ?_ ?_
        case refine_2 => intro w hSw; go_simp; try with_reducible rfl
        try simp only [putS]
        refine take_in (v := ?_) 1 (some 182) ?_ ?_
        case refine_2 => intro w hSw; (try dsimp only at hSw); obtain ⟨a0, a1, a2, a3, a4, a5, a6, b0, b1, b2, b3⟩ := (HC w hSw).out; go_simp; try with_reducible rfl
        try simp only [putS]
        refine take_in (v := ?_) 3 (some 184) ?_ ?_
        case refine_2 => intro w hSw; go_simp; try with_reducible rfl
        try simp only [putS]
        refine take_in (v := ?_) 4 (some 185) ?_ ?_
        case refine_2 => intro w hSw; (try dsimp only at hSw); obtain ⟨a0, a1, a2, a3, a4, a5, a6, b0, b1, b2, b3⟩ := (HC w hSw).out; go_simp; try with_reducible rfl
        try simp only [putS]
        refine wpAnyH_ready (rs := [2]) (by kernel_rfl) (by simp) ?_
        refine AllReadyH.cons (o := _) rfl (fun K hK => ?_) AllReadyH.nil
        go_simp
        refine (HRo _).out.mono ?_
        rintro e w' ⟨rfl, rfl⟩
        try go_wp2_with fail
        refine hK.out _ _ (hHeld) (fun hHeld => ?_)
        clear hK K
        try simp only [putS]
        refine wpAnyH_ready (rs := [5]) (by kernel_rfl) (by simp) ?_
        refine AllReadyH.cons (o := _) rfl (fun K hK => ?_) AllReadyH.nil
        go_simp
        refine (block_any _ q (by omega) i).mono ?_
        rintro e w5 ⟨gb, rfl, ho5, hk5⟩
        have HB5 := Lib.hid ho5
        have HKb := Lib.hid ((Kept.drew Nob wq).then hk5)
        clear ho5
        try go_wp2_with fail
        refine hK.out _ _ (hHeld.then hk5) (fun hHeld => ?_)
        clear hK K
        try simp only [putS]
        refine take_in (v := ?_) 6 (some 14) ?_ ?_
        case refine_2 => intro w hSw; go_simp; try with_reducible rfl
        try simp only [putS]
        refine wpAnyH_done (by kernel_rfl) ?_ _
        have HK5 := Lib.hid (HKq.out.then HKb.out)
        have hs5 := HK5.out.size
        have hsq := HKq.out.size
        have hRd : Reads w5 (.slice (some ⟨gb, 0, none⟩) q q) (((List.range q).map (blkN i)).map (Value.int .u8)) (From w.heap.size) := by
          have h := HB5.out.reads
          rw [blockRow_map] at h
          exact h.mono fun k _ h => by have h : wq.drew.heap.size ≤ k := h; have h : wq.heap.size ≤ k := h; have := HSA.out; show _ ≤ k; omega
        have HRd := Lib.hid hRd
        have HGz : Hid (∀ k, From w.heap.size k → ¬ Z k ∧ ¬ Z' k) := Lib.hid fun k hk => ⟨fun f => by have := HZZ.out k (.inl f); have hk : _ ≤ k := hk; omega, fun f => by have := HZZ.out k (.inr f); have hk : _ ≤ k := hk; omega⟩
        have hbl : ((List.range q).map (blkN i)).length ≤ 400 := by simp; omega
        have hbi := blkN_inB q i
        generalize (List.range q).map (blkN i) = bs at *
        have HBl := Lib.hid hbl
        have HBi := Lib.hid hbi
        clear hRd hbl hbi HB5 HKb HKq HRo hHeld hk5 hs5 hsq
        obtain ⟨a0, a1, a2, a3, a4, a5, a6, b0, b1, b2, b3⟩ := (HC w5 HK5.out.nob).out
        obtain ⟨xb, xo, u, rfl, hu, hc, -⟩ := (HR1 w5 HK5.out.nob).out.cell (i := k) (by rw [List.length_map]; exact hkt)
        obtain rfl : u = .pointer (some ⟨t[k].1, 0, none⟩) := by
          rw [List.getElem?_map, List.getElem?_eq_getElem hkt] at hu
          exact (Option.some.inj hu).symm
        clear hu
        have HMem : Hid ((t[k].1, t[k].2) ∈ t) := Lib.hid (List.getElem_mem hkt)
        have hy2 : ((t.map fun p => Value.pointer (some ⟨p.2, 0, none⟩)))[k]? = some (.pointer (some ⟨t[k].2, 0, none⟩)) := by rw [List.getElem?_map, List.getElem?_eq_getElem hkt]; rfl
        have HY2 := Lib.hid hy2
        clear hy2
        generalize t[k].1 = pg1 at *
        generalize t[k].2 = dg1 at *
        go_wp2_with fail
        refine ((HD w5 (HKA.out.then HK5.out)).out.insert HT.out pg1 dg1 HMem.out _ bs (From w.heap.size) HRd.out HGz.out HBl.out HBi.out).mono ?_
        rintro e w6 ⟨kv, ev, rfl, hk6, hdoc⟩
        have HDoc := Lib.hid hdoc
        have HK6 : Hid (Kept (fun x => Z x ∨ Z' x) wA w6) := Lib.hid (HK5.out.nob.trans' (hk6.mono fun x _ h => .inl h))
        clear a0 a1 a2 a3 a4 a5 a6 b0 b1 b2 b3 hc hk6 hdoc
        obtain ⟨a0, a1, a2, a3, a4, a5, a6, b0, b1, b2, b3⟩ := (HC w6 HK6.out).out
        obtain ⟨yb, yo, u, rfl, hu, hc, -⟩ := (HR2 w6 HK6.out).out.cell (i := k) (by rw [List.length_map]; exact hkt)
        obtain rfl : u = .pointer (some ⟨dg1, 0, none⟩) := Option.some.inj (hu.symm.trans HY2.out)
        clear hu
        go_wp2_with fail
        refine (HDoc.out w6 (Kept.refl _ _)).mono ?_
        rintro e w7 ⟨j, c, rfl, hca, hto⟩
        have HTo := Lib.hid hto
        clear a0 a1 a2 a3 a4 a5 a6 b0 b1 b2 b3 hc hto HDoc
        rcases hca with ⟨rfl, rfl, hkv⟩ | ⟨ge, rfl, rfl⟩
        · obtain rfl : kv = j := by simpa using hkv
          clear hkv
          go_wp2_with fail
          go_ret
          exact ⟨rfl, HTo.out.base (HKA.out.then HK5.out)⟩
        · go_wp2_with fail
          go_ret
          exact ⟨rfl, HTo.out.base (HKA.out.then HK5.out)⟩
      · have hvb : (v == pg) = false := beq_eq_false_iff_ne.2 hv
        clear hv
        go_wp2_with fail
        go_quiet (fail)
        go_wp2_with fail
        have HKq := Lib.hid (HKr.out.then (Kept.drewN Nob wr nq))
        go_roundw
        case rel => exact ⟨(k : Int) - 1, by omega, by omega, by first | rfl | go_num, HKq.out⟩
        case measure => simp [intOf] <;> omega
    · obtain rfl : iv = -1 := by omega
      clear h0 hv1 hv2
      go_wp2_with fail
      go_ret
      exact ⟨rfl, HLt.out.nob (HKA.out.then HKr.out)⟩
end Go.Proofs.YthppgchmamonnaaGreatDoor
