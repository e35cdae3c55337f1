/- Disk: Write. The verifier's Round. The verifier's small words: Round, Block, Bytes. pergolaalike.Ints: two rows of numbers. -/
import Derived.Test.YthppgchmamonnaaGreatDoorPq01
import Derived.Test.YthppgchmamonnaaGreatDoorPq03
import Derived.Test.YthppgchmamonnaaGreatDoorChecked
namespace Go.Proofs.YthppgchmamonnaaGreatDoor
open Go.RowKit
theorem Kept.drewL {F : Nat → Prop} {w w' : World} (h : Kept F w.drew w') : Kept F w w' := (Kept.drew F w).trans' h
theorem idx_neg (x : Int) : ∀ (l : List Int) (k : Nat), x ∉ l → idx x l k = -1 := by
  intro l
  induction l with
  | nil => intro k _; rfl
  | cons y r ih =>
    intro k h
    simp only [List.mem_cons, not_or] at h
    simp only [idx, if_neg h.1]
    exact ih _ h.2
theorem idx_pos (x : Int) : ∀ (l : List Int) (k : Nat), x ∈ l → 0 ≤ idx x l k := by
  intro l
  induction l with
  | nil => intro k h; simp at h
  | cons y r ih =>
    intro k h
    simp only [idx]
    split
    · omega
    · rename_i hn
      simp only [List.mem_cons] at h
      exact ih _ (h.resolve_left hn)
def RetWrite (w : World) (b : Nat) (d : Dsk) (F : Nat → Prop) (en : Ending) (w' : World) : Prop :=
  en = .returned .nilIface ∧ ∃ F', DiskAt w' b d F' ∧ Grows F w.heap.size F' ∧ Kept F w w'
theorem setCell_far {w : World} {b g i k : Nat} {v : Value} (h : b ≠ g) : (w.setCell ⟨g, k, none⟩ v).cell? ⟨b, i, none⟩ = w.cell? ⟨b, i, none⟩ :=
  World.cell?_of_block (w := w) (heap_setCell_other w ⟨g, k, none⟩ b v h)
theorem DiskAt.store {w w1 : World} {b g k cap n : Nat} {d : Dsk} {F : Nat → Prop} {gv ov : Value} {vs : List Value} {x : List Value} {b1 : Option Addr} {cap1 : Nat}
    (hb : w.heap[b]? = some (.cells #[gv, .slice (some ⟨g, 0, none⟩) n cap, ov, .int .i64 d.ops, .bool d.cut, .int .i64 d.left, .bool d.off] 72 (0, 0)))
    (hF : F b) (hg : OwnRows w 50 5 gv d.good F) (hn : Own w 50 (.slice (some ⟨g, 0, none⟩) n cap) vs F) (hn2 : RowsAt w 5 vs d.now F) (ho : Own w 3 ov (d.order.map (Value.int .i64)) F)
    (ha : ∀ j, gv.ownBlock = some j → (Value.slice (some ⟨g, 0, none⟩) n cap).ownBlock ≠ some j) (hw : d.Wf) (hu : Under F w.heap.size) (hmk : (k : Int) ∈ d.order) (hx : x.length = 64 ∧ ∀ u ∈ x, IsByte u)
    (ho1 : Own w1 5 (.slice b1 x.length cap1) x (From w.heap.size)) (hk1 : Kept Nob w w1) (d' : Dsk) (hd' : d' = { d with now := d.now.set k x }) :
    DiskAt (w1.setCell ⟨g, k, none⟩ (.slice b1 x.length cap1)) b d' (fun j => F j ∨ (w.heap.size ≤ j ∧ j < w1.heap.size)) ∧ Kept F w (w1.setCell ⟨g, k, none⟩ (.slice b1 x.length cap1)) := by
  subst hd'
  have hgF : F g := hn.2 g rfl
  obtain ⟨cur, hgb⟩ := hn.blockIs (g := g) rfl
  have hgb1 : w1.heap[g]? = some (.cells cur 50 (0, 0)) := (hk1.block g (hu g hgF) (fun f => f)).trans hgb
  have hks : Kept (Just g) w1 (w1.setCell ⟨g, k, none⟩ (.slice b1 x.length cap1)) := kept1 w1 g k _
  have hub : b < w.heap.size := hu b hF
  have hbg : b ≠ g := fun e => by rw [e, hgb] at hb; simp at hb
  have hb1 : w1.heap[b]? = _ := (hk1.block b hub (fun f => f)).trans hb
  have hsub : ∀ j, j < w1.heap.size → F j → F j ∨ (w.heap.size ≤ j ∧ j < w1.heap.size) := fun j _ h => .inl h
  have hg1 := hg.kept hk1 (fun _ _ f => f)
  have hn1 := hn.kept hk1 (fun _ _ f => f)
  have hn21 := hn2.kept hk1 (fun _ _ f => f)
  have h01 := ho.kept hk1 (fun _ _ f => f)
  refine ⟨⟨gv, .slice (some ⟨g, 0, none⟩) n cap, ov, (hks.block b (Nat.lt_of_lt_of_le hub hk1.size) hbg).trans hb1, .inl hF, ?_, ?_, ?_, ha, ?_, ?_⟩, ?_⟩
  · -- good: its row is another block, its sectors are of another type
    obtain ⟨gs, q1, q2⟩ := hg1
    refine ⟨gs, (q1.keptT hks fun j hj => ?_).mono (fun j _ h => .inl h), ⟨q2.len, fun i u y c1 c2 => ((q2.own i u y c1 c2).keptT hks fun j hj => ?_).mono (fun j _ h => .inl h), q2.apart⟩⟩
    · rw [show j = g from hj]; exact fun e => ha g e rfl
    · rw [show j = g from hj]; exact (q2.own i u y c1 c2).not_in hgb1 (by decide)
  · refine ⟨vs.set k (.slice b1 x.length cap1), (hn1.set k _).mono (fun j _ h => .inl h), ?_⟩
    have q : RowsAt (w1.setCell ⟨g, k, none⟩ (.slice b1 x.length cap1)) 5 vs d.now (fun j => F j ∨ (w.heap.size ≤ j ∧ j < w1.heap.size)) :=
      ⟨hn21.len, fun i u y c1 c2 => ((hn21.own i u y c1 c2).keptT hks fun j hj => by rw [show j = g from hj]; exact (hn21.own i u y c1 c2).not_in hgb1 (by decide)).mono (fun j _ h => .inl h), hn21.apart⟩
    refine q.set k ((ho1.keptT hks fun j hj => by rw [show j = g from hj]; exact ho1.not_in hgb1 (by decide)).mono fun j hj h => .inr ⟨h, ?_⟩) ?_
    · simpa [World.setCell] using hj
    · intro i u j hu1 hj hj'
      have hil : i < d.now.length := by rw [← hn2.len]; exact (List.getElem?_eq_some_iff.1 hu1).1
      have h1 := (hn2.own i u _ hu1 (List.getElem?_eq_getElem hil)).blockLt hj
      have h2 : w.heap.size ≤ j := ho1.2 j hj'
      omega
  · exact (h01.keptT hks fun j hj => by rw [show j = g from hj]; exact h01.not_in hgb1 (by decide)).mono (fun j _ h => .inl h)
  · refine { hw with len := by simpa using hw.len, now := Dsk.Sectors.set hw.now k hx, calm := fun i hi hn => ?_ }
    have hik : k ≠ i := fun e => hn (e ▸ hmk)
    show (d.now.set k x).getD i [] = _
    rw [List.getD_eq_getElem?_getD, List.getElem?_set_ne hik, ← List.getD_eq_getElem?_getD]
    exact hw.calm i hi hn
  · intro j hj
    have h1 := hk1.size
    have h2 := hks.size
    rcases hj with hj | hj
    · have := hu j hj; omega
    · omega
  · exact (Kept.nob hk1).trans hks (fun j _ hj => by rw [show j = g from hj]; exact hgF)
theorem DiskAt.more {w w2 : World} {b g2 cap2 : Nat} {d : Dsk} {F : Nat → Prop} {gv nv ov : Value} {k : Int}
    (hb : w.heap[b]? = some (.cells #[gv, nv, ov, .int .i64 d.ops, .bool d.cut, .int .i64 d.left, .bool d.off] 72 (0, 0)))
    (hF : F b) (hg : OwnRows w 50 5 gv d.good F) (hn : OwnRows w 50 5 nv d.now F) (ho : Own w 3 ov (d.order.map (Value.int .i64)) F)
    (ha : ∀ j, gv.ownBlock = some j → nv.ownBlock ≠ some j) (hw : d.Wf) (hu : Under F w.heap.size)
    (h2 : Own w2 3 (.slice (some ⟨g2, 0, none⟩) (d.order.length + 1) cap2) (d.order.map (Value.int .i64) ++ [.int .i64 k]) (fun j => ov.ownBlock = some j ∨ (w.alloc (.cells #[.int .i64 k] 3)).heap.size ≤ j))
    (hk2 : Kept (fun j => ov.ownBlock = some j) (w.alloc (.cells #[.int .i64 k] 3)) w2) (hk : 0 ≤ k ∧ k < d.good.length) (hnm : k ∉ d.order) :
    DiskAt (w2.setCell ⟨b, 2, none⟩ (.slice (some ⟨g2, 0, none⟩) (d.order.length + 1) cap2)) b { d with order := d.order ++ [k] } (fun j => F j ∨ (w.heap.size ≤ j ∧ j < w2.heap.size)) ∧
    Kept F w (w2.setCell ⟨b, 2, none⟩ (.slice (some ⟨g2, 0, none⟩) (d.order.length + 1) cap2)) ∧
    w2.cell? ⟨b, 2, none⟩ = some ov ∧ w2.frozen? ⟨b, 2, none⟩ = false ∧ w2.cell? ⟨b, 1, none⟩ = some nv := by
  have hub : b < w.heap.size := hu b hF
  have hbo : ov.ownBlock ≠ some b := ho.not_in hb (by decide)
  have hka : Kept Nob w (w.alloc (.cells #[.int .i64 k] 3)) := Kept.alloc _ _ _
  have hk12 : Kept (fun j => ov.ownBlock = some j) w w2 := (hka.nob).trans' hk2
  have hb2 : w2.heap[b]? = _ := (hk12.block b hub hbo).trans hb
  have hks := kept1 w2 b 2 (.slice (some ⟨g2, 0, none⟩) (d.order.length + 1) cap2)
  have hno : ∀ (er : TypeId) (v : Value) (xs : List Value), er ≠ 3 → Own w er v xs F → ∀ j, ov.ownBlock = some j → v.ownBlock ≠ some j := fun er v xs hne hv j hj => by
    obtain ⟨cur, hc⟩ := ho.blockIs hj
    exact hv.not_in hc hne
  have hd2 : ∀ j, Just b j → ∃ cs e' fz, w2.heap[j]? = some (.cells cs e' fz) ∧ e' ≠ 50 ∧ e' ≠ 5 := fun j hj => by
    rw [show j = b from hj]; exact ⟨_, _, _, hb2, by decide, by decide⟩
  have rows : ∀ (v : Value) (l : List (List Value)), OwnRows w 50 5 v l F → OwnRows (w2.setCell ⟨b, 2, none⟩ (.slice (some ⟨g2, 0, none⟩) (d.order.length + 1) cap2)) 50 5 v l F := fun v l ⟨vs, h1, h3⟩ => by
    have : OwnRows w2 50 5 v l F := ⟨vs, h1.keptT hk12 (hno _ _ _ (by decide) h1), h3.len, fun i u x a c => (h3.own i u x a c).keptT hk12 (hno _ _ _ (by decide) (h3.own i u x a c)), h3.apart⟩
    exact this.keptT hks hd2
  have hsz : w.heap.size + 1 ≤ w2.heap.size := by have := hk2.size; simpa using this
  have h2' : Own w2 3 (.slice (some ⟨g2, 0, none⟩) (d.order.length + 1) cap2) (d.order.map (Value.int .i64) ++ [.int .i64 k]) (fun j => F j ∨ (w.heap.size ≤ j ∧ j < w2.heap.size)) :=
    h2.mono fun j hj h => by
      rcases h with h | h
      · exact .inl (ho.2 j h)
      · simp at h; exact .inr ⟨by omega, hj⟩
  refine ⟨⟨gv, nv, _, heap_set w2 b 2 _ _ _ hb2, .inl hF, (rows _ _ hg).mono (fun _ _ h => .inl h), (rows _ _ hn).mono (fun _ _ h => .inl h), ?_, ha, ?_, ?_⟩, ?_, ?_, ?_, ?_⟩
  · have := h2'.keptT hks (fun j hj => by rw [show j = b from hj]; exact h2'.not_in hb2 (by decide))
    simpa using this
  · refine { hw with order := ?_, once := ?_, calm := fun i hi hn => hw.calm i hi (fun h => hn (by simp [h])) }
    · intro j hj
      simp at hj
      rcases hj with hj | rfl
      · exact hw.order j hj
      · exact hk
    · rw [List.nodup_append]
      refine ⟨hw.once, by simp, ?_⟩
      intro a ha b hb
      simp at hb
      subst hb
      exact fun e => hnm (e ▸ ha)
  · intro j hj
    have h1 := hks.size
    rcases hj with hj | hj
    · have := hu j hj; omega
    · omega
  · exact (hk12.mono (fun j _ hj => ho.2 j hj)).trans hks (fun j _ hj => by rw [show j = b from hj]; exact hF)
  · exact cell_at hb2 2 _ rfl
  · exact frozen_at hb2 2
  · exact cell_at hb2 1 _ rfl
def PutFacts (w : World) (b k : Nat) (d : Dsk) (F : Nat → Prop) (x : List Value) (g nn cap : Nat) (vk : Value) : Prop :=
  ∀ w2 b1 cap1, Own w2 5 (.slice b1 x.length cap1) x (From w.heap.size) → Kept Nob w.drew w2 →
    w2.cell? ⟨b, 1, none⟩ = some (.slice (some ⟨g, 0, none⟩) nn cap) ∧ w2.cell? ⟨g, k, none⟩ = some vk ∧ w2.frozen? ⟨g, k, none⟩ = false ∧
    ∃ F', DiskAt (w2.setCell ⟨g, k, none⟩ (.slice b1 x.length cap1)) b { d with now := d.now.set k x } F' ∧ Grows F w.heap.size F' ∧ Kept F w (w2.setCell ⟨g, k, none⟩ (.slice b1 x.length cap1))
theorem DiskAt.forPut {w : World} {b : Nat} {d : Dsk} {F : Nat → Prop} (h : DiskAt w b d F) {k : Nat} (hk : k < d.good.length) (hmk : (k : Int) ∈ d.order) {x : List Value} (hx : x.length = 64 ∧ ∀ u ∈ x, IsByte u) :
    ∃ g nn cap vk, w.cell? ⟨b, 1, none⟩ = some (.slice (some ⟨g, 0, none⟩) nn cap) ∧ k < nn ∧ nn ≤ 8192 ∧ b ≠ g ∧ PutFacts w b k d F x g nn cap vk := by
  obtain ⟨gv, nv, ov, hb, hF, hg, ⟨vs, hn, hn2⟩, ho, ha, hw, hu⟩ := h
  have hkv : k < vs.length := by rw [hn2.len, hw.len]; exact hk
  obtain ⟨g, cap, rfl⟩ : ∃ g cap, nv = .slice (some ⟨g, 0, none⟩) vs.length cap := by
    rcases hn.shape with ⟨_, hz⟩ | ⟨g, c', cur, hx, _⟩
    · simp [hz] at hkv
    · exact ⟨g, c', hx⟩
  have hgb : g < w.heap.size := hu g (hn.2 g rfl)
  have hbb : b < w.heap.size := hu b hF
  refine ⟨g, vs.length, cap, vs[k], cell_at hb 1 _ rfl, hkv, by rw [hn2.len, hw.len]; exact hw.most, fun e => ?_, fun w2 b1 cap1 h1 h2 => ?_⟩
  · obtain ⟨cur, hgb⟩ := hn.blockIs (g := g) rfl
    rw [e, hgb] at hb; simp at hb
  · have hst := DiskAt.store (w := w.drew) (w1 := w2) (k := k) (x := x) (b1 := b1) (cap1 := cap1) hb hF hg.drew hn.drew hn2.drew ho.drew ha hw hu hmk hx h1 h2 _ rfl
    refine ⟨(h2.cell (p := ⟨b, 1, none⟩) hbb (fun f => f)).trans (cell_at hb 1 _ rfl), (h2.cell (p := ⟨g, k, none⟩) hgb (fun f => f)).trans (hn.cell k vs[k] (List.getElem?_eq_getElem hkv)),
      (h2.frozen (p := ⟨g, k, none⟩) hgb (fun f => f)).trans (hn.frozen k), _, hst.1, fun j hj => ?_, hst.2.drewL⟩
    rcases hj with hj | hj
    · exact .inl hj
    · exact .inr hj.1
set_option maxHeartbeats 1000000 in
theorem disk_write (w : World) (b : Nat) (d : Dsk) (F : Nat → Prop) (h : DiskAt w b d F) (k : Nat) (hk : k < d.good.length) (v : Value) (x : List Value) (G : Nat → Prop) (hx : Reads w v x G) (hxx : x.length = 64 ∧ ∀ u ∈ x, IsByte u)
    (hd : Disj G F) (hops : d.ops < 9223372036854775807) (hgo : d.goes = true) :
    Calls Tryz.prog 78 #[.pointer (some ⟨b, 0, none⟩), .int .i64 k, v] w (RetWrite w b (d.begun.put k x) F) := by
  have H := Lib.hid (disk_len w b d F h)
  have HB0 := disk_begin w b d F h hops
  rw [hgo] at HB0
  have HB := Lib.hid HB0
  clear HB0 hgo
  have hm := h.wf.most
  have hlt : decide ((d.good.length : Int) ≤ (k : Int)) = false := by simp; omega
  obtain ⟨av, cv, rfl, _⟩ := hx.shape
  have hxl : ((x.length : Int) != 64) = false := by simp; omega
  have HK := Lib.hid hk
  have hlg : d.begun.good.length = d.good.length := rfl
  rw [← hlg] at HK
  have HX := Lib.hid hxx
  have HXR := Lib.hid hx
  have HU := Lib.hid h.under
  have hbF := h.has
  have HbF := Lib.hid hbF
  have HD := Lib.hid hd
  clear h hlg hxx hx hbF hd
  generalize d.begun = d1 at *
  generalize d.good.length = n at *
  by_cases hmem : (k : Int) ∈ d1.order
  · have hput : d1.put k x = { d1 with now := d1.now.set k x } := by simp [Dsk.put, hmem]
    rw [hput]
    clear hput
    go_enter Tryz.func78, Tryz.ntmps78
    go_wp2_with (go_at_call 33; refine H.out.mono ?_; rintro e w' ⟨rfl, rfl⟩)
    refine HB.out.mono ?_
    rintro e w1 ⟨rfl, hD1, hk1⟩
    obtain ⟨g, nn, cap, vk, c1, hkn, hnn, hne, hPF⟩ := hD1.forPut HK.out hmem HX.out
    have HPF := Lib.hid hPF
    obtain ⟨gv, nv, ov, hb, hF, hg, hnv, ho, ha, hw, hu⟩ := hD1
    obtain ⟨oa, oc, rfl, _⟩ := ho.reads.shape
    have c2 := cell_at hb 2 _ rfl
    have HCn := Lib.hid (contains_ints w1 _ d1.order k F ho.reads (by have := hw.orderLen; omega))
    have hdec : decide (0 ≤ idx (k : Int) d1.order 0) = true := by simpa using idx_pos (k : Int) d1.order 0 hmem
    rw [hdec] at HCn
    clear hdec hmem
    simp only [List.length_map] at c2 HCn
    have hx1 : Reads w1 (Value.slice av x.length cv) x G := HXR.out.kept hk1 (fun j hj hb => HD.out j hj (by rw [show j = b from hb]; exact hF))
    have HCl := Lib.hid (clone_bytes w1.drew _ x G hx1.drew HX.out.2 (by have := HX.out.1; omega))
    have i0 : (0 : Int) ≤ (k : Int) := Int.natCast_nonneg _
    have i1 : (k : Int) < (nn : Int) := by omega
    have HHk1 := Lib.hid hk1
    clear hb hF hg hnv ho ha hw hu hx1 hk1 hPF
    go_wp2_with (go_at_call 106; refine HCn.out.mono ?_; rintro e w' ⟨rfl, rfl⟩)
    go_region_held3 (fun w' => w'.cell? ⟨b, 1, none⟩ = some (.slice (some ⟨g, 0, none⟩) nn cap)) (first | go_keep | (rw [setCell_far hne]; assumption))
      ((go_at_call 62; refine HCl.out.mono ?_; rintro e w2 ⟨b2, cap2, rfl, ho2, hk2, hn2⟩; have HQ := Lib.hid (HPF.out w2 b2 cap2 ho2 hk2); have q1 := HQ.out.1; have q2 := HQ.out.2.1; have q3 := HQ.out.2.2.1))
    go_wp2
    go_ret
    obtain ⟨_, _, _, F', r1, r2, r3⟩ := HQ.out
    exact ⟨rfl, F', r1, fun j hj => (r2 j hj).imp id (Nat.le_trans HHk1.out.size), (HHk1.out.mono (fun j _ hj => by rw [show j = b from hj]; exact HbF.out)).trans' r3⟩
  · have hput : d1.put k x = { { d1 with order := d1.order ++ [(k : Int)] } with now := d1.now.set k x } := by simp [Dsk.put, hmem]
    rw [hput]
    clear hput
    go_enter Tryz.func78, Tryz.ntmps78
    go_wp2_with (go_at_call 33; refine H.out.mono ?_; rintro e w' ⟨rfl, rfl⟩)
    refine HB.out.mono ?_
    rintro e w1 ⟨rfl, hD1, hk1⟩
    obtain ⟨gv, nv, ov, hb, hF, hg, hnn, ho, ha, hw, hu⟩ := hD1
    obtain ⟨oa, oc, rfl, _⟩ := ho.reads.shape
    have c1 := cell_at hb 1 _ rfl
    have c2 := cell_at hb 2 _ rfl
    have hol := hw.orderLen
    have HCn := Lib.hid (contains_ints w1 _ d1.order k F ho.reads (by omega))
    have hdec : decide (0 ≤ idx (k : Int) d1.order 0) = false := by rw [idx_neg (k : Int) d1.order 0 hmem]; rfl
    rw [hdec] at HCn
    clear hdec
    have HO := Lib.hid ho
    have HMore := fun w2 g2 cap2 h1 h2 => Lib.hid (DiskAt.more (w2 := w2) (g2 := g2) (cap2 := cap2) (k := (k : Int)) hb hF hg hnn ho ha hw hu h1 h2 ⟨by omega, by have := HK.out; omega⟩ hmem)
    have hx1 : Reads w1 (Value.slice av x.length cv) x G := HXR.out.kept hk1 (fun j hj hb => HD.out j hj (by rw [show j = b from hb]; exact hF))
    have HX1 := Lib.hid hx1
    have HHk1 := Lib.hid hk1
    have HUn := Lib.hid hu
    clear hb hF hg hnn ha hw hu hx1 hk1 hmem ho
    simp only [List.length_map] at c2 HCn HO HMore
    have hbb : b < w1.heap.size := HUn.out b HbF.out
    go_wp2_with (first | (go_at_call 106; refine HCn.out.mono ?_; rintro e w' ⟨rfl, rfl⟩) | (at_builtin; refine wpList_append1_pg rfl _ _ 36 rfl tInts (.slice oa d1.order.length oc) (d1.order.map (Value.int .i64)) (.int .i64 k) F ⟨w1.heap.size, 0, none⟩ 1 rfl rfl (HO.out.alloc _) (by simp) rfl (Nat.le_refl _) rfl (by simp; omega) ?_; intro g2 cap2 w2 ho2 hk2; simp only [List.length_map] at ho2; have HM := HMore w2 g2 cap2 ho2 hk2; have q1 := HM.out.2.2.1; have q2 := HM.out.2.2.2.1; have q3 := HM.out.2.2.2.2))
    have hsz := hk2.size
    obtain ⟨hD3, hk3, _, _, _⟩ := HM.out
    clear ho2 hk2 HM HMore q1 q2 q3 c1 c2 HO HCn
    generalize w2.setCell { block := b, off := 2 } (Value.slice (some { block := g2, off := 0 }) (d1.order.length + 1) cap2) = w3 at *
    obtain ⟨g, nn, cap, vk, c1, hkn, hnn, hne, hPF⟩ := hD3.forPut HK.out (by simp) HX.out
    have HPF := Lib.hid hPF
    have hx3 : Reads w3 (Value.slice av x.length cv) x G := HX1.out.kept hk3 HD.out
    have HCl := Lib.hid (clone_bytes w3.drew _ x G hx3.drew HX.out.2 (by have := HX.out.1; omega))
    have i0 : (0 : Int) ≤ (k : Int) := Int.natCast_nonneg _
    have i1 : (k : Int) < (nn : Int) := by omega
    have HHk3 := Lib.hid hk3
    clear hx3 hPF hD3 hk3
    go_region_held3 (fun w' => w'.cell? ⟨b, 1, none⟩ = some (.slice (some ⟨g, 0, none⟩) nn cap)) (first | go_keep | (rw [setCell_far hne]; assumption))
      ((go_at_call 62; refine HCl.out.mono ?_; rintro e w4 ⟨b2, cap2, rfl, ho2, hk2, hn2⟩; have HQ := Lib.hid (HPF.out w4 b2 cap2 ho2 hk2); have q1 := HQ.out.1; have q2 := HQ.out.2.1; have q3 := HQ.out.2.2.1))
    go_wp2
    go_ret
    obtain ⟨_, _, _, F', r1, r2, r3⟩ := HQ.out
    have hs1 := HHk1.out.size
    have hs3 := HHk3.out.size
    refine ⟨rfl, F', r1, fun j hj => ?_, ((HHk1.out.mono (fun j _ hj => by rw [show j = b from hj]; exact HbF.out)).trans' HHk3.out).trans r3 fun j hj h => ?_⟩
    · rcases r2 j hj with (h | h) | h
      · exact .inl h
      · exact .inr (by omega)
      · exact .inr (by omega)
    · rcases h with h | h
      · exact h
      · omega
def RetNoWrite (w : World) (b : Nat) (d : Dsk) (F : Nat → Prop) (op : ByteArray) (id code : Int) (en : Ending) (w' : World) : Prop :=
  ∃ g, en = .returned (.iface 81 (.pointer (some ⟨g, 0, none⟩))) ∧ FaultAt w' (.iface 81 (.pointer (some ⟨g, 0, none⟩))) op id code (From w.heap.size) ∧ DiskAt w' b d F ∧ Kept F w w'
theorem disk_write_range (w : World) (b : Nat) (d : Dsk) (F : Nat → Prop) (h : DiskAt w b d F) (k : Int) (hk : k < 0 ∨ d.good.length ≤ k) (a : Option Addr) (n c : Nat) :
    Calls Tryz.prog 78 #[.pointer (some ⟨b, 0, none⟩), .int .i64 k, .slice a n c] w (RetNoWrite w b d F opWrite k 2) := by
  have H := Lib.hid (disk_len w b d F h)
  have HC := fun w => Lib.hid (fault_new w opWrite k 2)
  have HD := Lib.hid h
  clear h
  generalize d.good.length = n at *
  unfold opWrite at HC
  by_cases hneg : k < 0
  · clear hk
    go_enter Tryz.func78, Tryz.ntmps78
    go_wp2_with (first | (go_at_call 33; refine H.out.mono ?_; rintro e w' ⟨rfl, rfl⟩) | (go_at_call 31; refine (HC _).out.mono ?_; rintro e w1 ⟨g1, rfl, ho1, hk1⟩))
    go_ret
    exact ⟨g1, rfl, ho1, HD.out.kept hk1 (fun _ _ f => f), hk1.nob⟩
  · have hge : decide ((n : Int) ≤ k) = true := by simp; omega
    clear hk
    go_enter Tryz.func78, Tryz.ntmps78
    go_wp2_with (first | (go_at_call 33; refine H.out.mono ?_; rintro e w' ⟨rfl, rfl⟩) | (go_at_call 31; refine (HC _).out.mono ?_; rintro e w1 ⟨g1, rfl, ho1, hk1⟩))
    go_ret
    exact ⟨g1, rfl, ho1, HD.out.kept hk1 (fun _ _ f => f), hk1.nob⟩
theorem disk_write_arg (w : World) (b : Nat) (d : Dsk) (F : Nat → Prop) (h : DiskAt w b d F) (k : Nat) (hk : k < d.good.length) (a : Option Addr) (n c : Nat) (hn : n ≠ 64) :
    Calls Tryz.prog 78 #[.pointer (some ⟨b, 0, none⟩), .int .i64 k, .slice a n c] w (RetNoWrite w b d F opWrite k 1) := by
  have H := Lib.hid (disk_len w b d F h)
  have HC := fun w => Lib.hid (fault_new w opWrite k 1)
  have HD := Lib.hid h
  have hm := h.wf.most
  clear h
  have hlt : decide ((d.good.length : Int) ≤ (k : Int)) = false := by simp; omega
  have hxl : ((n : Int) != 64) = true := by simp; omega
  generalize d.good.length = n at *
  unfold opWrite at HC
  go_enter Tryz.func78, Tryz.ntmps78
  go_wp2_with (first | (go_at_call 33; refine H.out.mono ?_; rintro e w' ⟨rfl, rfl⟩) | (go_at_call 31; refine (HC _).out.mono ?_; rintro e w1 ⟨g1, rfl, ho1, hk1⟩))
  go_ret
  exact ⟨g1, rfl, ho1, HD.out.kept hk1 (fun _ _ f => f), hk1.nob⟩
theorem disk_write_off (w : World) (b : Nat) (d : Dsk) (F : Nat → Prop) (h : DiskAt w b d F) (k : Nat) (hk : k < d.good.length) (a : Option Addr) (c : Nat) (hops : d.ops < 9223372036854775807) (hgo : d.goes = false) :
    Calls Tryz.prog 78 #[.pointer (some ⟨b, 0, none⟩), .int .i64 k, .slice a 64 c] w (RetNoWrite w b d.begun F opWrite k 9) := by
  have H := Lib.hid (disk_len w b d F h)
  have HC := fun w => Lib.hid (fault_new w opWrite k 9)
  have HB0 := disk_begin w b d F h hops
  rw [hgo] at HB0
  have HB := Lib.hid HB0
  have hm := h.wf.most
  have HbF := Lib.hid h.has
  clear h HB0 hgo
  have hlt : decide ((d.good.length : Int) ≤ (k : Int)) = false := by simp; omega
  generalize d.begun = d1 at *
  generalize d.good.length = n at *
  unfold opWrite at HC
  go_enter Tryz.func78, Tryz.ntmps78
  go_wp2_with (first | (go_at_call 33; refine H.out.mono ?_; rintro e w' ⟨rfl, rfl⟩) | (go_at_call 79; refine HB.out.mono ?_; rintro e w1 ⟨rfl, hD1, hk1⟩) | (go_at_call 31; refine (HC _).out.mono ?_; rintro e w2 ⟨g1, rfl, ho1, hk2⟩))
  go_ret
  refine ⟨g1, rfl, ho1.mono (fun j _ hj => Nat.le_trans hk1.size hj), hD1.kept hk2 (fun _ _ f => f), (hk1.mono (fun j _ hj => by rw [show j = b from hj]; exact HbF.out)).then hk2⟩
theorem tmod_up (k n : Int) (h0 : 0 < n) (h1 : n ≤ 1000000000) (h : k.tmod n < 0) : wrap64 (k.tmod n + n) = k % n := by
  have h2 := Int.lt_tmod_of_pos k h0
  have h3 := Int.tmod_eq_emod (a := k) (b := n)
  have h4 := Int.emod_nonneg k (show n ≠ 0 by omega)
  rw [IntWalk.wrap64_in _ (by omega)]
  rw [h3] at h ⊢
  split
  · rename_i hc; rw [if_pos hc] at h; omega
  · have : (n.natAbs : Int) = n := by omega
    omega
theorem tmod_id (k n : Int) (h0 : 0 < n) (h : 0 ≤ k.tmod n) : k.tmod n = k % n := by
  have h3 := Int.tmod_eq_emod (a := k) (b := n)
  have h4 := Int.emod_lt_of_pos k h0
  rw [h3] at h ⊢
  split
  · omega
  · rename_i hc
    rw [if_neg hc] at h
    have : (n.natAbs : Int) = n := by omega
    omega
theorem ret_int' {k : IntKind} {a b : Int} (h : a = b) : Ending.returned (.int k a) = .returned (.int k b) := by rw [h]
theorem round_any (w : World) (k n : Int) (h0 : 0 < n) (h1 : n ≤ 1000000000) :
    Calls Tryz.prog 17 #[.int .i64 k, .int .i64 n] w fun e w' => e = .returned (.int .i64 (k % n)) ∧ w = w' := by
  have hne : (n == 0) = false := beq_eq_false_iff_ne.2 (by omega)
  go_enter Tryz.func17, Tryz.ntmps17
  go_wp2
  · have hlt : k.tmod n < 0 := by assumption
    go_ret
    exact ⟨ret_int' (tmod_up k n h0 h1 hlt), rfl⟩
  · have hge : 0 ≤ k.tmod n := by assumption
    go_ret
    exact ⟨ret_int' (tmod_id k n h0 hge), rfl⟩
def blkN (k : Int) (i : Nat) : Int := wrap64 (wrap64 ((i : Int) * (i : Int) + wrap64 (k * 7)) + 1) % 251
theorem blkN_range (k : Int) (i : Nat) : 0 ≤ blkN k i ∧ blkN k i < 251 := by unfold blkN; omega
def blockRow (n : Nat) (k : Int) : List Value := (List.range n).map fun i => .int .u8 (blkN k i)
theorem blockRow_length (n : Nat) (k : Int) : (blockRow n k).length = n := by simp [blockRow]
theorem blockRow_succ (n : Nat) (k : Int) : blockRow (n + 1) k = blockRow n k ++ [.int .u8 (blkN k n)] := by simp [blockRow, List.range_succ]
theorem set_step {xs zs : List Value} {z v : Value} {k m : Nat} (hx : xs.length = k) (hz : zs = List.replicate (m + 1) z) : (xs ++ zs).set k v = xs ++ [v] ++ List.replicate m z := by
  subst hz
  rw [List.set_append_right k v (by omega), hx]
  simp [List.replicate_succ]
def RetBlock (w : World) (n : Nat) (k : Int) (en : Ending) (w' : World) : Prop :=
  ∃ g, en = .returned (.slice (some ⟨g, 0, none⟩) n n) ∧ Own w' 5 (.slice (some ⟨g, 0, none⟩) n n) (blockRow n k) (From w.heap.size) ∧ Kept Nob w w'
set_option maxHeartbeats 400000 in
theorem block_any (w : World) (n : Nat) (hn : n ≤ 100000) (k : Int) :
    Calls Tryz.prog 56 #[.int .i64 n, .int .i64 k] w (RetBlock w n k) := by
  have hmax : max (n : Int) 0 = (n : Int) := by omega
  go_enter Tryz.func56, Tryz.ntmps56
  go_wp2_with (at_make; go_must (refine wpList_make_pg rfl _ _ 50 rfl tBytes rfl n .i64 .i64 rfl rfl (by omega) ?_); intro w1 ho1 hk1)
  have HO := Lib.hid ho1
  have HK := Lib.hid hk1
  clear ho1 hk1 hmax
  have hsz := HK.out.size
  obtain ⟨g, hg⟩ : ∃ g, w.heap.size = g := ⟨_, rfl⟩
  have HG := Lib.hid hg
  rw [hg] at HO ⊢
  clear hg
  go_loopw [6] (fun i wr => ∃ k' : Nat, k' ≤ n ∧ i = .int .i64 k' ∧ Own wr 5 (.slice (some ⟨g, 0, none⟩) n n) (blockRow k' k ++ List.replicate (n - k') (.int .u8 0)) (Just g) ∧ Kept (Just g) w1 wr) (fun i _ => n - (intOf i).toNat)
  case atStart => exact ⟨0, Nat.zero_le _, rfl, ⟨by simpa [blockRow] using HO.out.1, fun j hj => by simp [Value.ownBlock] at hj; exact hj.symm⟩, Kept.refl _ _⟩
  case round =>
    obtain ⟨j, hj, rfl, ho, hw⟩ := hrel
    by_cases hlt : j < n
    · have hcell := ho.cell j (.int .u8 0) (by rw [List.getElem?_append_right (by rw [blockRow_length]; omega), blockRow_length, List.getElem?_replicate, if_pos (by omega)])
      have hfz := ho.frozen j
      have hset := ho.set j (.int .u8 (blkN k j))
      rw [set_step (m := n - (j + 1)) (blockRow_length j k) (by rw [show n - j = n - (j + 1) + 1 from by omega]), ← blockRow_succ] at hset
      have HS := Lib.hid hset
      have HW := Lib.hid hw
      have hbl := blkN_range k j
      have HBL : Hid (blkN k j = wrap64 (wrap64 ((j : Int) * (j : Int) + wrap64 (k * 7)) + 1) % 251) := rfl
      clear ho hw hset
      have HR := fun wx => Lib.hid (round_any wx (wrap64 (wrap64 ((j : Int) * (j : Int) + wrap64 (k * 7)) + 1)) 251 (by omega) (by omega))
      rw [← HBL.out] at HR
      have hjj : wrap64 ((j : Int) * (j : Int)) = (j : Int) * (j : Int) := IntWalk.wrap64_in _ ⟨by have := Int.natCast_nonneg j; have := Int.mul_nonneg this this; omega, by
        have h1 : (j : Int) ≤ 100000 := by omega
        have : (j : Int) * (j : Int) ≤ 100000 * 100000 := Int.mul_le_mul h1 h1 (Int.natCast_nonneg j) (by omega)
        omega⟩
      go_wp2_with (go_at_call 17; refine (HR _).out.mono ?_; rintro e w' ⟨rfl, rfl⟩)
      go_roundw
      case rel => exact ⟨j + 1, by omega, by go_num, HS.out, HW.out.trans' (Kept.setCell _ _ _ rfl)⟩
      case measure => simp [intOf]; omega
    · obtain rfl : j = n := by omega
      have hx : blockRow j k ++ List.replicate (j - j) (Value.int .u8 0) = blockRow j k := by simp
      rw [hx] at ho
      go_wp2
      go_ret
      have := HG.out
      exact ⟨g, rfl, ho.mono (fun x _ hx => by rw [show x = g from hx, ← this]; exact Nat.le_refl _), HK.out.from (Nat.le_refl _) (hw.mono fun x _ hx => by rw [show x = g from hx, ← this]; exact Nat.le_refl _)⟩
theorem map_u8_inj {xs ys : List Int} (h : xs.map (Value.int .u8) = ys.map (Value.int .u8)) : xs = ys := by
  induction xs generalizing ys with
  | nil => cases ys with
    | nil => rfl
    | cons y r => simp at h
  | cons x s ih => cases ys with
    | nil => simp at h
    | cons y r => simp at h; rw [h.1, ih h.2]
def RetSame (w : World) (xs ys : List Value) (en : Ending) (w' : World) : Prop :=
  ∃ r n, en = .returned (.bool r) ∧ (r = true ↔ xs = ys) ∧ w' = w.drewN n
theorem RetSame.kept {w w' : World} {xs ys : List Value} {en : Ending} (h : RetSame w xs ys en w') : Kept Nob w w' := by
  obtain ⟨r, n, _, _, rfl⟩ := h
  exact Kept.drewN _ _ _
set_option maxHeartbeats 400000 in
theorem bytes_any (w : World) (v u : Value) (xs ys : List Int) (F G : Nat → Prop) (h1 : Reads w v (xs.map (Value.int .u8)) F) (h2 : Reads w u (ys.map (Value.int .u8)) G) (hl : xs.length < 1000000000) (hl2 : ys.length < 1000000000) :
    Calls Tryz.prog 50 #[v, u] w (RetSame w (xs.map (Value.int .u8)) (ys.map (Value.int .u8))) := by
  obtain ⟨va, vc, rfl, _⟩ := h1.shape
  obtain ⟨ua, uc, rfl, _⟩ := h2.shape
  simp only [List.length_map]
  have H1 := Lib.hid h1
  have H2 := Lib.hid h2
  clear h1 h2
  by_cases hlen : xs.length = ys.length
  · have hb : ((xs.length : Int) != (ys.length : Int)) = false := by simp [hlen]
    have HL := Lib.hid hlen
    clear hlen
    go_enter Tryz.func50, Tryz.ntmps50
    go_wp2
    go_loopw [5] (fun i wr => ∃ k : Nat, k ≤ xs.length ∧ i = .int .i64 k ∧ xs.take k = ys.take k ∧ ∃ n, wr = w.drewN n) (fun i _ => xs.length - (intOf i).toNat)
    case atStart => exact ⟨0, Nat.zero_le _, rfl, rfl, 0, rfl⟩
    case round =>
      obtain ⟨k, hk, rfl, he, n, rfl⟩ := hrel
      have HE := Lib.hid he
      clear he
      by_cases hlt : k < xs.length
      · have hlt2 : k < ys.length := by rw [← HL.out]; exact hlt
        obtain ⟨b1, o1, hva, c1⟩ : ∃ b o, va = some ⟨b, o, none⟩ ∧ w.cell? ⟨b, o + k, none⟩ = some (.int .u8 xs[k]) := by
          rcases H1.out with ⟨hz, _⟩ | ⟨b, o, c, hx, _, _, _, hc⟩
          · simp at hz; simp [hz] at hlt
          · simp only [Value.slice.injEq] at hx
            exact ⟨b, o, hx.1, hc k _ (by simp [hlt])⟩
        obtain ⟨b2, o2, hua, c2⟩ : ∃ b o, ua = some ⟨b, o, none⟩ ∧ w.cell? ⟨b, o + k, none⟩ = some (.int .u8 ys[k]) := by
          rcases H2.out with ⟨hz, _⟩ | ⟨b, o, c, hx, _, _, _, hc⟩
          · simp at hz; simp [hz] at hlt2
          · simp only [Value.slice.injEq] at hx
            exact ⟨b, o, hx.1, hc k _ (by simp [hlt2])⟩
        subst hva hua
        have i0 : (0 : Int) ≤ (k : Int) := Int.natCast_nonneg _
        have i1 : (k : Int) < (xs.length : Int) := by omega
        have i2 : (k : Int) < (ys.length : Int) := by omega
        have e1 : xs.take (k + 1) = xs.take k ++ [xs[k]] := List.take_succ_eq_append_getElem hlt
        have e2 : ys.take (k + 1) = ys.take k ++ [ys[k]] := List.take_succ_eq_append_getElem hlt2
        have E1 := Lib.hid e1
        have E2 := Lib.hid e2
        clear e1 e2
        by_cases heq : xs[k] = ys[k]
        · have hbe : (xs[k] != ys[k]) = false := by simp [heq]
          have HQ := Lib.hid heq
          clear heq
          go_wp2_with fail
          go_quiet (fail)
          go_wp2
          go_roundw
          case rel => exact ⟨k + 1, by omega, by go_num, by rw [E1.out, E2.out, HE.out, HQ.out], _, rfl⟩
          case measure => simp [intOf]; omega
        · have hbe : (xs[k] != ys[k]) = true := by simp [heq]
          have HQ := Lib.hid heq
          clear heq
          go_wp2_with fail
          go_quiet (fail)
          go_wp2
          go_ret
          refine ⟨false, _, rfl, ⟨fun h => (by cases h), fun h => ?_⟩, World.drewN_drewN _ _ _⟩
          have h2 := map_u8_inj h
          subst h2
          exact absurd rfl HQ.out
      · obtain rfl : k = xs.length := by omega
        go_wp2
        go_ret
        refine ⟨true, _, rfl, ⟨fun _ => ?_, fun _ => rfl⟩, rfl⟩
        have h2 := HE.out
        rw [List.take_length, HL.out, List.take_length] at h2
        rw [h2]
  · have hb : ((xs.length : Int) != (ys.length : Int)) = true := by simp; omega
    have HL := Lib.hid hlen
    clear hlen
    go_enter Tryz.func50, Tryz.ntmps50
    go_wp2
    go_ret
    exact ⟨false, 0, rfl, ⟨fun h => (by cases h), fun h => absurd (show xs.length = ys.length by rw [map_u8_inj h]) HL.out⟩, rfl⟩
theorem map_i64_inj {xs ys : List Int} (h : xs.map (Value.int .i64) = ys.map (Value.int .i64)) : xs = ys := by
  induction xs generalizing ys with
  | nil => cases ys with
    | nil => rfl
    | cons y r => simp at h
  | cons x r ih =>
    cases ys with
    | nil => simp at h
    | cons y r => simp at h; rw [h.1, ih h.2]
set_option maxHeartbeats 400000 in
theorem ints_any (w : World) (v u : Value) (xs ys : List Int) (F G : Nat → Prop) (h1 : Reads w v (xs.map (Value.int .i64)) F) (h2 : Reads w u (ys.map (Value.int .i64)) G) (hl : xs.length < 1000000000) (hl2 : ys.length < 1000000000) :
    Calls Tryz.prog 26 #[v, u] w (RetSame w (xs.map (Value.int .i64)) (ys.map (Value.int .i64))) := by
  obtain ⟨va, vc, rfl, _⟩ := h1.shape
  obtain ⟨ua, uc, rfl, _⟩ := h2.shape
  simp only [List.length_map]
  have H1 := Lib.hid h1
  have H2 := Lib.hid h2
  clear h1 h2
  by_cases hlen : xs.length = ys.length
  · have hb : ((xs.length : Int) != (ys.length : Int)) = false := by simp [hlen]
    have HL := Lib.hid hlen
    clear hlen
    go_enter Tryz.func26, Tryz.ntmps26
    go_wp2
    go_loopw [5] (fun i wr => ∃ k : Nat, k ≤ xs.length ∧ i = .int .i64 k ∧ xs.take k = ys.take k ∧ ∃ n, wr = w.drewN n) (fun i _ => xs.length - (intOf i).toNat)
    case atStart => exact ⟨0, Nat.zero_le _, rfl, rfl, 0, rfl⟩
    case round =>
      obtain ⟨k, hk, rfl, he, n, rfl⟩ := hrel
      have HE := Lib.hid he
      clear he
      by_cases hlt : k < xs.length
      · have hlt2 : k < ys.length := by rw [← HL.out]; exact hlt
        obtain ⟨b1, o1, hva, c1⟩ : ∃ b o, va = some ⟨b, o, none⟩ ∧ w.cell? ⟨b, o + k, none⟩ = some (.int .i64 xs[k]) := by
          rcases H1.out with ⟨hz, _⟩ | ⟨b, o, c, hx, _, _, _, hc⟩
          · simp at hz; simp [hz] at hlt
          · simp only [Value.slice.injEq] at hx
            exact ⟨b, o, hx.1, hc k _ (by simp [hlt])⟩
        obtain ⟨b2, o2, hua, c2⟩ : ∃ b o, ua = some ⟨b, o, none⟩ ∧ w.cell? ⟨b, o + k, none⟩ = some (.int .i64 ys[k]) := by
          rcases H2.out with ⟨hz, _⟩ | ⟨b, o, c, hx, _, _, _, hc⟩
          · simp at hz; simp [hz] at hlt2
          · simp only [Value.slice.injEq] at hx
            exact ⟨b, o, hx.1, hc k _ (by simp [hlt2])⟩
        subst hva hua
        have i0 : (0 : Int) ≤ (k : Int) := Int.natCast_nonneg _
        have i1 : (k : Int) < (xs.length : Int) := by omega
        have i2 : (k : Int) < (ys.length : Int) := by omega
        have e1 : xs.take (k + 1) = xs.take k ++ [xs[k]] := List.take_succ_eq_append_getElem hlt
        have e2 : ys.take (k + 1) = ys.take k ++ [ys[k]] := List.take_succ_eq_append_getElem hlt2
        have E1 := Lib.hid e1
        have E2 := Lib.hid e2
        clear e1 e2
        by_cases heq : xs[k] = ys[k]
        · have hbe : (xs[k] != ys[k]) = false := by simp [heq]
          have HQ := Lib.hid heq
          clear heq
          go_wp2_with fail
          go_quiet (fail)
          go_wp2
          go_roundw
          case rel => exact ⟨k + 1, by omega, by go_num, by rw [E1.out, E2.out, HE.out, HQ.out], _, rfl⟩
          case measure => simp [intOf]; omega
        · have hbe : (xs[k] != ys[k]) = true := by simp [heq]
          have HQ := Lib.hid heq
          clear heq
          go_wp2_with fail
          go_quiet (fail)
          go_wp2
          go_ret
          refine ⟨false, _, rfl, ⟨fun h => (by cases h), fun h => ?_⟩, World.drewN_drewN _ _ _⟩
          have h2 := map_i64_inj h
          subst h2
          exact absurd rfl HQ.out
      · obtain rfl : k = xs.length := by omega
        go_wp2
        go_ret
        refine ⟨true, _, rfl, ⟨fun _ => ?_, fun _ => rfl⟩, rfl⟩
        have h2 := HE.out
        rw [List.take_length, HL.out, List.take_length] at h2
        rw [h2]
  · have hb : ((xs.length : Int) != (ys.length : Int)) = true := by simp; omega
    have HL := Lib.hid hlen
    clear hlen
    go_enter Tryz.func26, Tryz.ntmps26
    go_wp2
    go_ret
    exact ⟨false, 0, rfl, ⟨fun h => (by cases h), fun h => absurd (show xs.length = ys.length by rw [map_i64_inj h]) HL.out⟩, rfl⟩
end Go.Proofs.YthppgchmamonnaaGreatDoor
