/- Disk: Copy. -/
import Derived.Test.YthjjckpgjfjokaaDoorPgDisk7
import Derived.Test.YthjjckpgjfjokaaDoorPgDisk8
namespace Go.Proofs.YthjjckpgjfjokaaDoor
open Go.RowKit

theorem clone_ints (w : World) (v : Value) (xs : List Value) (G : Nat → Prop) (hr : Reads w v xs G) (h1 : ∀ u ∈ xs, u.oneCell' = true) (hsz : xs.length * 9 ≤ 140737488355328) :
    Calls Tryd.prog 41 #[v] w (RetRow w 3 xs (v = .slice none 0 0)) := by
  obtain ⟨a, cap, rfl, hn⟩ := hr.shape
  have heq := fun w a n c => Lib.run_eql_slice_nil (P := Tryd.prog) w 60 3 a n c 0 0 Tryd.underlying60
  cases a with
  | none =>
    have hv := hn.1 rfl
    simp at hv
    obtain rfl := List.eq_nil_of_length_eq_zero (by simpa using hv.1)
    obtain rfl := hv.2
    clear hn hv
    go_enter Tryd.func41, Tryd.ntmps41
    go_wp2
    go_ret
    exact ⟨none, 0, rfl, Own.nil _ _ _, Kept.refl _ _, by simp⟩
  | some ad =>
    have HS := Lib.hid h1
    clear h1 hn
    go_enter Tryd.func41, Tryd.ntmps41
    go_wp2_with (at_builtin; refine wpList_append_pg rfl _ _ 60 rfl tInts (.slice (some ⟨w.heap.size, 0, none⟩) 0 0) _ [] xs (From w.heap.size) G rfl rfl (Own.empty_new w _) (hr.alloc _) HS.out (by simpa using hsz) ?_; intro b' cap' w1 ho hk hn)
    go_ret
    refine ⟨b', cap', rfl, ?_, ?_, ?_⟩
    · have := ho.mono (G := From w.heap.size) (fun k _ hk => by simp [Value.ownBlock, From] at *; omega)
      simpa using this
    · refine ((Kept.alloc Nob w _).from (n := w.heap.size) (Nat.le_refl _) (hk.mono ?_))
      intro k _ hk
      simp [Value.ownBlock, From] at *
      omega
    · simpa using hn

/-- the copy is whole -/
theorem copy_made {w w1 w2 w3 : World} {d : Dsk} {S0 : Array Value} {a1 a2 a3 : Option Addr} {n3 k1 k2 k3 : Nat} (hS : S0 = #[S0[0]!, S0[1]!, S0[2]!, .int .i64 d.ops, .bool d.cut, .int .i64 d.left, .bool d.off]) (hw : d.Wf)
    (ho1 : OwnRows w1 30 5 (.slice a1 d.good.length k1) d.good (From ((w.alloc (.cells S0 62)).drew.heap.size))) (hk1 : Kept Nob (w.alloc (.cells S0 62)).drew w1)
    (ho2 : OwnRows w2 30 5 (.slice a2 d.now.length k2) d.now (From w1.heap.size)) (hk2 : Kept Nob w1 w2)
    (ho3 : Own w3 3 (.slice a3 n3 k3) (d.order.map (Value.int .i64)) (From w2.heap.size)) (hk3 : Kept Nob w2 w3) :
    (∀ i v, S0[i]? = some v → w3.cell? ⟨w.heap.size, i, none⟩ = some v) ∧ (∀ i, w3.frozen? ⟨w.heap.size, i, none⟩ = false) ∧
    DiskAt (((w3.setCell ⟨w.heap.size, 0, none⟩ (.slice a1 d.good.length k1)).setCell ⟨w.heap.size, 1, none⟩ (.slice a2 d.now.length k2)).setCell ⟨w.heap.size, 2, none⟩ (.slice a3 n3 k3)) w.heap.size d (fun k => w.heap.size ≤ k ∧ k < w3.heap.size) ∧
    Kept Nob w (((w3.setCell ⟨w.heap.size, 0, none⟩ (.slice a1 d.good.length k1)).setCell ⟨w.heap.size, 1, none⟩ (.slice a2 d.now.length k2)).setCell ⟨w.heap.size, 2, none⟩ (.slice a3 n3 k3)) ∧
    (((w3.setCell ⟨w.heap.size, 0, none⟩ (.slice a1 d.good.length k1)).setCell ⟨w.heap.size, 1, none⟩ (.slice a2 d.now.length k2)).setCell ⟨w.heap.size, 2, none⟩ (.slice a3 n3 k3)).heap.size = w3.heap.size := by
  have h0 : (w.alloc (.cells S0 62)).drew.heap[w.heap.size]? = some (.cells S0 62 (0, 0)) := heap_alloc_new w _
  have hz : (w.alloc (.cells S0 62)).drew.heap.size = w.heap.size + 1 := by simp
  have s1 := hk1.size
  have s2 := hk2.size
  have s3 := hk3.size
  rw [hz] at s1 ho1
  have hk123 := (hk1.then hk2).then hk3
  have hb3 : w3.heap[w.heap.size]? = some (.cells S0 62 (0, 0)) := (hk123.block w.heap.size (by rw [hz]; omega) (fun f => f)).trans h0
  have ho13 := (ho1.kept hk2 (fun _ _ f => f)).kept hk3 (fun _ _ f => f)
  have ho23 := ho2.kept hk3 (fun _ _ f => f)
  have hks := kept3 w3 w.heap.size 0 1 2 (.slice a1 d.good.length k1) (.slice a2 d.now.length k2) (.slice a3 n3 k3)
  have hd : ∀ j, Just w.heap.size j → ∃ cs e' fz, w3.heap[j]? = some (.cells cs e' fz) ∧ e' ≠ 30 ∧ e' ≠ 5 := fun j hj => by
    rw [show j = w.heap.size from hj]; exact ⟨_, _, _, hb3, by decide, by decide⟩
  have hsz : (((w3.setCell ⟨w.heap.size, 0, none⟩ (.slice a1 d.good.length k1)).setCell ⟨w.heap.size, 1, none⟩ (.slice a2 d.now.length k2)).setCell ⟨w.heap.size, 2, none⟩ (.slice a3 n3 k3)).heap.size = w3.heap.size := by simp [World.setCell]
  refine ⟨fun i v hi => cell_at hb3 i v hi, fun i => frozen_at hb3 i, ⟨_, _, _, (heap3 w3 w.heap.size 0 1 2 _ _ _ _ _ hb3).trans (by rw [hS]; rfl), ⟨Nat.le_refl _, by omega⟩, (ho13.keptT hks hd).mono ?_, (ho23.keptT hks hd).mono ?_, (ho3.keptT hks fun j hj => ?_).mono ?_, ?_, hw, ?_⟩, ?_, hsz⟩
  · intro k hk h
    rw [hsz] at hk
    exact ⟨by have : w.heap.size + 1 ≤ k := h; omega, hk⟩
  · intro k hk h
    rw [hsz] at hk
    exact ⟨by have : w1.heap.size ≤ k := h; omega, hk⟩
  · rw [show j = w.heap.size from hj]; exact ho3.not_in hb3 (by decide)
  · intro k hk h
    rw [hsz] at hk
    exact ⟨by have : w2.heap.size ≤ k := h; omega, hk⟩
  · intro g hg hg'
    obtain ⟨vs, hv, _⟩ := ho1
    obtain ⟨us, hu, _⟩ := ho2
    have := hv.blockLt hg
    have h3 : w1.heap.size ≤ g := hu.2 g hg'
    omega
  · intro k hk
    rw [hsz]; exact hk.2
  · have q1 : Kept Nob w w3 := ((Kept.alloc Nob w (.cells S0 62)).trans' (Kept.drew Nob _)).then hk123
    exact q1.from (Nat.le_refl _) (hks.mono fun k _ h => by rw [show k = w.heap.size from h]; exact Nat.le_refl _)

set_option maxHeartbeats 1000000 in
theorem disk_copy (w : World) (b : Nat) (d : Dsk) (F : Nat → Prop) (h : DiskAt w b d F) :
    Calls Tryd.prog 26 #[.pointer (some ⟨b, 0, none⟩)] w (RetDisk w d) := by
  have HG := Lib.hid (disk_gone w b d F h)
  have HD := Lib.hid h
  obtain ⟨gv, nv, ov, hb, hF, hg, hn, ho, ha, hw, hu⟩ := h
  obtain ⟨gs, hg1, hg2⟩ := hg
  obtain ⟨ns, hn1, hn2⟩ := hn
  obtain ⟨ga, gc, rfl, _⟩ := hg1.reads.shape
  obtain ⟨na, nc, rfl, _⟩ := hn1.reads.shape
  obtain ⟨oa, oc, rfl, _⟩ := ho.reads.shape
  have c0 := cell_at hb 0 _ rfl
  have c1 := cell_at hb 1 _ rfl
  have c2 := cell_at hb 2 _ rfl
  have c3 := cell_at hb 3 _ rfl
  have c4 := cell_at hb 4 _ rfl
  have c5 := cell_at hb 5 _ rfl
  have c6 := cell_at hb 6 _ rfl
  have hbb : b < w.heap.size := hu b hF
  have hcg := fun W (hk : Kept Nob w W) => copied_any W (.slice ga gs.length gc) d.good F (OwnRows.kept (⟨gs, hg1, hg2⟩ : OwnRows w 30 5 _ _ _) hk (fun _ _ f => f)) (by have := hw.most; omega) (fun x hx => ⟨by have := (hw.good x hx).1; omega, (hw.good x hx).2⟩)
  have hcn := fun W (hk : Kept Nob w W) => copied_any W (.slice na ns.length nc) d.now F (OwnRows.kept (⟨ns, hn1, hn2⟩ : OwnRows w 30 5 _ _ _) hk (fun _ _ f => f)) (by rw [hw.len]; have := hw.most; omega) (fun x hx => ⟨by have := (hw.now x hx).1; omega, (hw.now x hx).2⟩)
  have hco := fun W (hk : Kept Nob w W) => clone_ints W (.slice oa d.order.length oc) (d.order.map (Value.int .i64)) F (by have := ho.reads.kept hk (fun _ _ f => f); simpa using this) (fun u hu => by simp at hu; obtain ⟨x, _, rfl⟩ := hu; rfl) (by have := hw.orderLen; simp; omega)
  have HCG := Lib.hid hcg
  have HCN := Lib.hid hcn
  have HCO := Lib.hid hco
  have HW := Lib.hid hw
  have HMk := fun w1 w2 w3 a1 k1 a2 k2 a3 n3 k3 q1 q2 q3 q4 q5 q6 => Lib.hid (copy_made (w := w) (w1 := w1) (w2 := w2) (w3 := w3) (d := d) (S0 := #[.slice ga gs.length gc, .slice na ns.length nc, .slice oa d.order.length oc, .int .i64 d.ops, .bool d.cut, .int .i64 d.left, .bool d.off]) (a1 := a1) (a2 := a2) (a3 := a3) (n3 := n3) (k1 := k1) (k2 := k2) (k3 := k3) rfl hw q1 q2 q3 q4 q5 q6)
  have HM := Lib.hid HMk
  have hqf : ∀ W : World, Kept Nob w W → W.cell? ⟨b, 0, none⟩ = some (.slice ga gs.length gc) ∧ W.cell? ⟨b, 1, none⟩ = some (.slice na ns.length nc) ∧ W.cell? ⟨b, 2, none⟩ = some (.slice oa d.order.length oc) := fun W hk => by
    have q : ∀ i, W.cell? ⟨b, i, none⟩ = w.cell? ⟨b, i, none⟩ := fun i => hk.cell (p := ⟨b, i, none⟩) hbb (fun f => f)
    exact ⟨(q 0).trans c0, (q 1).trans c1, (q 2).trans (by rw [c2]; simp)⟩
  have HQF := Lib.hid hqf
  have hne : b ≠ w.heap.size := by omega
  clear hb hg1 hg2 hn1 hn2 ho ha hw hu hcg hcn hco HMk hqf
  go_enter Tryd.func26, Tryd.ntmps26
  go_wp2_with (go_at_call 30; refine HG.out.mono ?_; rintro e w' ⟨rfl, rfl⟩)
  go_region_held3 (fun w' => w'.cell? ⟨b, 0, none⟩ = some (.slice ga gs.length gc) ∧ w'.cell? ⟨b, 1, none⟩ = some (.slice na ns.length nc) ∧ w'.cell? ⟨b, 2, none⟩ = some (.slice oa d.order.length oc)) (first | go_keep | (go_split_ands; refine ⟨?_, ?_, ?_⟩ <;> (rw [setCell_far hne]; assumption)))
    (first
      | (go_at_call_of 29 (Value.slice ga gs.length gc); refine (HCG.out _ ((Kept.alloc Nob w _).trans' (Kept.drew Nob _))).mono ?_; rintro e w1 ⟨a1, k1, rfl, ho1, hk1⟩; have O1 := Lib.hid ho1; have K1 := Lib.hid hk1; have KK1 := Lib.hid (((Kept.alloc Nob w _).trans' (Kept.drew Nob _)).then hk1); have q1 := (HQF.out w1 KK1.out).1; have q2 := (HQF.out w1 KK1.out).2.1; have q3 := (HQF.out w1 KK1.out).2.2; clear ho1 hk1)
      | (go_at_call_of 29 (Value.slice na ns.length nc); refine (HCN.out w1 KK1.out).mono ?_; rintro e w2 ⟨a2, k2, rfl, ho2, hk2⟩; have O2 := Lib.hid ho2; have K2 := Lib.hid hk2; have KK2 := Lib.hid (KK1.out.then hk2); have q4 := (HQF.out w2 KK2.out).1; have q5 := (HQF.out w2 KK2.out).2.1; have q6 := (HQF.out w2 KK2.out).2.2; clear ho2 hk2)
      | (go_at_call 41; refine (HCO.out w2 KK2.out).mono ?_; rintro e w3 ⟨a3, k3, rfl, ho3, hk3, hn3⟩; have HX := HM.out w1 w2 w3 a1 k1 a2 k2 a3 _ k3 O1.out K1.out O2.out K2.out ho3 hk3; have KK3 := Lib.hid (KK2.out.then hk3); have q7 := (HQF.out w3 KK3.out).1; have q8 := (HQF.out w3 KK3.out).2.1; have q9 := (HQF.out w3 KK3.out).2.2; have e0 := HX.out.1 0 _ rfl; have e1 := HX.out.1 1 _ rfl; have e2 := HX.out.1 2 _ rfl; have f0 := HX.out.2.1 0; have f1 := HX.out.2.1 1; have f2 := HX.out.2.1 2; clear ho3 hk3 hn3))
  go_wp2
  go_ret
  obtain ⟨_, _, r1, r2, r3⟩ := HX.out
  simp only [List.length_map] at r1 r2 r3
  exact ⟨w.heap.size, rfl, by rw [r3]; exact r1, r2⟩
end Go.Proofs.YthjjckpgjfjokaaDoor
