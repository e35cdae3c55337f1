/- Disk: Sync. -/
import Derived.Test.YthppgchmamonnaaGreatDoorPgDisk6
namespace Go.Proofs.YthppgchmamonnaaGreatDoor
open Go.RowKit

/-- what the walk wants to know ahead of the store of a sector that is made durable -/
def FixFacts (w : World) (b k : Nat) (d : Dsk) (F : Nat → Prop) (g nn cap gn cn : Nat) (vk sk : Value) : Prop :=
  ∀ w2 b1 cap1, Own w2 5 (.slice b1 (d.now.getD k []).length cap1) (d.now.getD k []) (From w.heap.size) → Kept Nob w.drew w2 →
    w2.cell? ⟨b, 0, none⟩ = some (.slice (some ⟨g, 0, none⟩) nn cap) ∧ w2.cell? ⟨b, 1, none⟩ = some (.slice (some ⟨gn, 0, none⟩) nn cn) ∧ w2.cell? ⟨gn, k, none⟩ = some sk ∧
    w2.cell? ⟨g, k, none⟩ = some vk ∧ w2.frozen? ⟨g, k, none⟩ = false ∧
    ∃ F', DiskAt (w2.setCell ⟨g, k, none⟩ (.slice b1 (d.now.getD k []).length cap1)) b { d with good := d.good.set k (d.now.getD k []) } F' ∧ Grows F w.heap.size F' ∧ F g ∧ Kept (Just g) w (w2.setCell ⟨g, k, none⟩ (.slice b1 (d.now.getD k []).length cap1))

theorem DiskAt.forFix {w : World} {b : Nat} {d : Dsk} {F : Nat → Prop} (h : DiskAt w b d F) {k : Nat} (hk : k < d.good.length) (hmk : (k : Int) ∈ d.order) :
    ∃ g nn cap gn cn vk sb sn sc, w.cell? ⟨b, 0, none⟩ = some (.slice (some ⟨g, 0, none⟩) nn cap) ∧ w.cell? ⟨b, 1, none⟩ = some (.slice (some ⟨gn, 0, none⟩) nn cn) ∧ w.cell? ⟨gn, k, none⟩ = some (.slice sb sn sc) ∧
      Reads w (.slice sb sn sc) (d.now.getD k []) F ∧ k < nn ∧ nn ≤ 8192 ∧ b ≠ g ∧ gn ≠ g ∧ (∃ cur, w.heap[g]? = some (.cells cur 50 (0, 0))) ∧ FixFacts w b k d F g nn cap gn cn vk (.slice sb sn sc) := by
  obtain ⟨gv, nv, ov, hb, hF, ⟨gs, hg, hg2⟩, ⟨vs, hn, hn2⟩, ho, ha, hw, hu⟩ := h
  have hkg : k < gs.length := by rw [hg2.len]; exact hk
  have hkv : k < vs.length := by rw [hn2.len, hw.len]; exact hk
  have hkn : k < d.now.length := by rw [hw.len]; exact hk
  have hgl : gs.length = vs.length := by rw [hg2.len, hn2.len, hw.len]
  obtain ⟨g, cap, rfl⟩ : ∃ g cap, gv = .slice (some ⟨g, 0, none⟩) gs.length cap := by
    rcases hg.shape with ⟨_, hz⟩ | ⟨g, c', cur, hx, _⟩
    · simp [hz] at hkg
    · exact ⟨g, c', hx⟩
  obtain ⟨gn, cn, rfl⟩ : ∃ g cap, nv = .slice (some ⟨g, 0, none⟩) gs.length cap := by
    rw [hgl]
    rcases hn.shape with ⟨_, hz⟩ | ⟨g, c', cur, hx, _⟩
    · simp [hz] at hkv
    · exact ⟨g, c', hx⟩
  have e1 : d.now.getD k [] = d.now[k] := by rw [List.getD_eq_getElem?_getD, List.getElem?_eq_getElem hkn]; rfl
  have hsec := hn2.own k vs[k] d.now[k] (List.getElem?_eq_getElem hkv) (List.getElem?_eq_getElem hkn)
  have hS := hw.now d.now[k] (List.getElem_mem hkn)
  rw [← e1] at hsec hS
  obtain ⟨sb, sc, hvk, _⟩ := hsec.reads.shape
  have hcn := hn.cell k vs[k] (List.getElem?_eq_getElem hkv)
  rw [hvk] at hcn hsec
  have hgF : F g := hg.2 g rfl
  have hgw : g < w.heap.size := hu g hgF
  have hgnw : gn < w.heap.size := hu gn (hn.2 gn rfl)
  have hbb : b < w.heap.size := hu b hF
  obtain ⟨cur, hgb⟩ := hg.blockIs (g := g) rfl
  have hbg : b ≠ g := fun e => by rw [e, hgb] at hb; simp at hb
  have hgng : gn ≠ g := fun e => ha g rfl (by rw [e]; rfl)
  refine ⟨g, gs.length, cap, gn, cn, gs[k], sb, (d.now.getD k []).length, sc, cell_at hb 0 _ rfl, cell_at hb 1 _ rfl, hcn, hsec.reads, hkg, by rw [hg2.len]; exact hw.most, hbg, hgng, ⟨cur, hgb⟩, fun w2 b1 cap1 h1 h2 => ?_⟩
  have h2' : Kept Nob w w2 := h2.drewL
  have hgb2 : w2.heap[g]? = some (.cells cur 50 (0, 0)) := (h2'.block g hgw (fun f => f)).trans hgb
  have hb2 : w2.heap[b]? = _ := (h2'.block b hbb (fun f => f)).trans hb
  have hks := kept1 w2 g k (.slice b1 (d.now.getD k []).length cap1)
  have hst := OwnRows.store (w := w) (w1 := w2) (by decide) (⟨gs, hg, hg2⟩ : OwnRows w 50 5 (.slice (some ⟨g, 0, none⟩) gs.length cap) d.good F) h2' h1 k
  refine ⟨(h2'.cell (p := ⟨b, 0, none⟩) hbb (fun f => f)).trans (cell_at hb 0 _ rfl), (h2'.cell (p := ⟨b, 1, none⟩) hbb (fun f => f)).trans (cell_at hb 1 _ rfl), (h2'.cell (p := ⟨gn, k, none⟩) hgnw (fun f => f)).trans hcn,
    (h2'.cell (p := ⟨g, k, none⟩) hgw (fun f => f)).trans (hg.cell k gs[k] (List.getElem?_eq_getElem hkg)), (h2'.frozen (p := ⟨g, k, none⟩) hgw (fun f => f)).trans (hg.frozen k),
    _, ⟨_, _, ov, (hks.block b (Nat.lt_of_lt_of_le hbb h2'.size) hbg).trans hb2, .inl hF, hst.1, ?_, ?_, ?_, ?_, ?_⟩, ?_, hgF, ?_⟩
  · have hn1 := hn.kept h2' (fun _ _ f => f)
    have hn21 := hn2.kept h2' (fun _ _ f => f)
    refine ⟨vs, (hn1.keptT hks fun j hj => ?_).mono (fun j _ h => .inl h), ⟨hn21.len, fun i u y c1 c2 => ((hn21.own i u y c1 c2).keptT hks fun j hj => ?_).mono (fun j _ h => .inl h), hn21.apart⟩⟩
    · rw [show j = g from hj]; exact fun e => hgng (by simpa [Value.ownBlock] using e)
    · rw [show j = g from hj]; exact (hn21.own i u y c1 c2).not_in hgb2 (by decide)
  · have ho1 := ho.kept h2' (fun _ _ f => f)
    exact (ho1.keptT hks fun j hj => by rw [show j = g from hj]; exact ho1.not_in hgb2 (by decide)).mono (fun j _ h => .inl h)
  · exact ha
  · refine { hw with len := by simpa using hw.len, pos := by simpa using hw.pos, most := by simpa using hw.most, good := Dsk.Sectors.set hw.good k hS, order := fun j hj => by simpa using hw.order j hj, calm := fun i hi hn => ?_ }
    have hik : k ≠ i := fun e => hn (e ▸ hmk)
    show _ = (d.good.set k (d.now.getD k [])).getD i []
    rw [List.getD_eq_getElem?_getD (l := d.good.set _ _), List.getElem?_set_ne hik, ← List.getD_eq_getElem?_getD]
    exact hw.calm i (by simpa using hi) hn
  · intro j hj
    have s1 := h2'.size
    have s2 := hks.size
    rcases hj with hj | hj
    · have := hu j hj; omega
    · omega
  · intro j hj
    rcases hj with hj | hj
    · exact .inl hj
    · exact .inr hj.1
  · exact h2'.nob.trans' hks

/-- what Sync's loop keeps -/
def SyncRel (w : World) (b : Nat) (d : Dsk) (F : Nat → Prop) (ov : Value) (k : Nat) (wr : World) : Prop :=
  Own wr 3 ov (d.order.map (Value.int .i64)) F ∧ ∃ F', DiskAt wr b { d with good := Dsk.settle d.now (d.order.take k) d.good } F' ∧ Grows F w.heap.size F' ∧ Kept F w wr

/-- nothing waits any more: the last store -/
theorem SyncRel.done {w wr : World} {b : Nat} {d : Dsk} {F : Nat → Prop} {ov0 : Value} (h : SyncRel w b d F ov0 d.order.length wr) :
    (∃ v, wr.cell? ⟨b, 2, none⟩ = some v) ∧ wr.frozen? ⟨b, 2, none⟩ = false ∧ ∃ F', DiskAt (wr.setCell ⟨b, 2, none⟩ (.slice none 0 0)) b { d with good := Dsk.settle d.now d.order d.good, order := [] } F' ∧ Grows F w.heap.size F' ∧ Kept F w (wr.setCell ⟨b, 2, none⟩ (.slice none 0 0)) := by
  obtain ⟨-, F', ⟨gv, nv, ov, hb, hF, hg, hn, ho, ha, hw, hu⟩, hgr, hk⟩ := h
  rw [List.take_length] at hg hw
  have hks := kept1 wr b 2 (.slice none 0 0)
  have hd : ∀ j, Just b j → ∃ cs e' fz, wr.heap[j]? = some (.cells cs e' fz) ∧ e' ≠ 50 ∧ e' ≠ 5 := fun j hj => by
    rw [show j = b from hj]; exact ⟨_, _, _, hb, by decide, by decide⟩
  refine ⟨⟨_, cell_at hb 2 _ rfl⟩, frozen_at hb 2, F', ⟨gv, nv, .slice none 0 0, heap_set wr b 2 _ _ _ hb, hF, hg.keptT hks hd, hn.keptT hks hd, Own.nil _ _ _, ha, ?_, hu.mono hks.size⟩, hgr, ?_⟩
  · refine { hw with order := by simp, once := by simp, calm := fun i hi _ => ?_ }
    have hi' : i < d.good.length := by simpa [Dsk.settle_length] using hi
    show d.now.getD i [] = (Dsk.settle d.now d.order d.good).getD i []
    rw [Dsk.settle_getD _ _ _ _ (fun k hk => (hw.order k hk).1) hi']
    split
    · rfl
    · rename_i hn
      have := hw.calm i hi hn
      show d.now.getD i [] = _
      rw [show d.now.getD i [] = (Dsk.settle d.now d.order d.good).getD i [] from this, Dsk.settle_getD _ _ _ _ (fun k hk => (hw.order k hk).1) hi', if_neg hn]
  · have : Grows F w.heap.size F' := hgr
    refine hk.trans (hks.mono (G := F') fun j _ hj => by rw [show j = b from hj]; exact hF) fun j hj hFj => ?_
    rcases this j hFj with h | h
    · exact h
    · omega

/-- a round -/
theorem SyncRel.step {w wr w3 : World} {b g : Nat} {d : Dsk} {F F' F3 : Nat → Prop} {ov : Value} {k a : Nat} (hk : k < d.order.length) (ha : d.order[k] = (a : Int)) (hov : Own wr 3 ov (d.order.map (Value.int .i64)) F) (hgr : Grows F w.heap.size F') (hw : Kept F w wr)
    (hg : ∃ cur, wr.heap[g]? = some (.cells cur 50 (0, 0))) (hgF : F' g) (hD : DiskAt w3 b { d with good := (Dsk.settle d.now (d.order.take k) d.good).set a (d.now.getD a []) } F3) (hg3 : Grows F' wr.heap.size F3) (hk3 : Kept (Just g) wr w3) : SyncRel w b d F ov (k + 1) w3 := by
  have e : Dsk.settle d.now (d.order.take (k + 1)) d.good = (Dsk.settle d.now (d.order.take k) d.good).set a (d.now.getD a []) := by
    rw [List.take_succ_eq_append_getElem hk, Dsk.settle_snoc, ha]; rfl
  refine ⟨hov.keptT hk3 fun j hj => ?_, F3, by rw [e]; exact hD, hgr.trans hg3 hw.size, hw.trans hk3 fun j hj hj' => ?_⟩
  · obtain ⟨cur, hc⟩ := hg
    rw [show j = g from hj]; exact hov.not_in hc (by decide)
  · rw [show j = g from hj'] at hj ⊢
    rcases hgr g hgF with h | h
    · exact h
    · omega

set_option maxHeartbeats 1000000 in
theorem disk_sync (w : World) (b : Nat) (d : Dsk) (F : Nat → Prop) (h : DiskAt w b d F) (hops : d.ops < 9223372036854775807) (hgo : d.goes = true) :
    Calls Tryz.prog 43 #[.pointer (some ⟨b, 0, none⟩)] w (RetWrite w b d.sync.1 F) := by
  have HG := Lib.hid (disk_gone w b d F h)
  have HB0 := disk_begin w b d F h hops
  have hsy : d.sync.1 = { d.begun with good := Dsk.settle d.begun.now d.begun.order d.begun.good, order := [] } := by simp [Dsk.sync, hgo]; rfl
  rw [hgo] at HB0
  rw [hsy]
  have HB := Lib.hid HB0
  have HbF := Lib.hid h.has
  clear HB0 hgo hsy h
  generalize d.begun = d1 at *
  go_enter Tryz.func43, Tryz.ntmps43
  go_wp2_with (go_at_call 40; refine HG.out.mono ?_; rintro e w' ⟨rfl, rfl⟩)
  refine HB.out.mono ?_
  rintro e w1 ⟨rfl, hD1, hk1⟩
  have HK1 := Lib.hid (hk1.mono (G := F) fun j _ hj => by rw [show j = b from hj]; exact HbF.out)
  have HD1 := Lib.hid hD1
  obtain ⟨gv, nv, ov, hb, hF, hg, hn, ho, ha, hw, hu⟩ := hD1
  obtain ⟨oa, oc, rfl, _⟩ := ho.reads.shape
  have c2 := cell_at hb 2 _ rfl
  have HO := Lib.hid ho
  have HW := Lib.hid hw
  have HBB := Lib.hid hb
  have hol := hw.orderLen
  clear hk1 hb hF hg hn ha hw hu ho
  simp only [List.length_map] at c2 HO
  go_wp2_with fail
  have HR0 : Hid (SyncRel w1 b d1 F (.slice oa d1.order.length oc) 0 w1) := ⟨HO.out, F, HD1.out, Grows.refl _ _, Kept.refl _ _⟩
  go_loopw [19] (fun i wr => ∃ k : Nat, k ≤ d1.order.length ∧ i = .int .i64 k ∧ SyncRel w1 b d1 F (.slice oa d1.order.length oc) k wr) (fun i _ => d1.order.length - (intOf i).toNat)
  case atStart => exact ⟨0, Nat.zero_le _, rfl, HR0.out⟩
  case round =>
    obtain ⟨k, hk, rfl, hS⟩ := hrel
    by_cases hlt : k < d1.order.length
    · obtain ⟨hov, F', hD, hgr, hkw⟩ := hS
      obtain ⟨a, ha⟩ : ∃ a : Nat, d1.order[k] = (a : Int) := ⟨d1.order[k].toNat, by have := (HW.out.order _ (List.getElem_mem hlt)).1; omega⟩
      have hal : a < d1.good.length := by have := HW.out.order _ (List.getElem_mem hlt); omega
      obtain ⟨go, rfl⟩ : ∃ go, oa = some ⟨go, 0, none⟩ := by
        rcases hov.shape with ⟨hx, hz⟩ | ⟨g, c', cur, hx, _⟩
        · simp at hz; rw [hz] at hlt; simp at hlt
        · simp at hx; exact ⟨g, hx.1⟩
      have co : wr.cell? ⟨go, k, none⟩ = some (.int .i64 a) := hov.cell k _ (by rw [List.getElem?_map, List.getElem?_eq_getElem hlt, ha]; rfl)
      obtain ⟨g, nn, cap, gn, cn, vk, sb, sn, sc, c0, c1, c3, hsr, hkn, hnn, hbg, hgg, hcur, hFF⟩ := hD.forFix (k := a) (by simp only [Dsk.settle_length]; exact hal) (by rw [← ha]; exact List.getElem_mem hlt)
      have hX : ((d1.now.getD a []).length = 64) ∧ ∀ u ∈ d1.now.getD a [], IsByte u := Dsk.Sectors.getD HW.out.now (by rw [HW.out.len]; exact hal)
      have HFx := Lib.hid hFF
      have HOV := Lib.hid hov
      have HGR := Lib.hid hgr
      have HKW := Lib.hid hkw
      have HCU := Lib.hid hcur
      have HA := Lib.hid ha
      have HCl := Lib.hid (clone_bytes wr.drew _ _ _ hsr.drew hX.2 (by rw [hX.1]; omega))
      have i0 : (0 : Int) ≤ (a : Int) := Int.natCast_nonneg _
      have i1 : (a : Int) < (nn : Int) := by omega
      clear hov hD hgr hkw hFF hX ha hsr hcur HR0 c2
      go_wp2_with fail
      go_region_held3 (fun w' => w'.cell? ⟨b, 0, none⟩ = some (.slice (some ⟨g, 0, none⟩) nn cap) ∧ w'.cell? ⟨b, 1, none⟩ = some (.slice (some ⟨gn, 0, none⟩) nn cn) ∧ w'.cell? ⟨gn, a, none⟩ = some (.slice sb sn sc)) (first | go_keep | (go_split_ands; refine ⟨?_, ?_, ?_⟩ <;> first | (rw [setCell_far hbg]; assumption) | (rw [setCell_far hgg]; assumption)))
        ((go_at_call 62; refine HCl.out.mono ?_; rintro e w2 ⟨b2, cap2, rfl, ho2, hk2, hn2⟩; have HQ := Lib.hid (HFx.out w2 b2 cap2 ho2 hk2); have q1 := HQ.out.1; have q2 := HQ.out.2.1; have q3 := HQ.out.2.2.1; have q4 := HQ.out.2.2.2.1; have q5 := HQ.out.2.2.2.2.1))
      go_wp2
      obtain ⟨_, _, _, _, _, F3, r1, r2, r3, r4⟩ := HQ.out
      have HN := Lib.hid (SyncRel.step hlt HA.out HOV.out HGR.out HKW.out HCU.out r3 r1 r2 r4)
      clear r1 r2 r3 r4
      go_roundw
      case rel => exact ⟨k + 1, by omega, by go_num, HN.out⟩
      case measure => simp [intOf]; omega
    · obtain rfl : d1.order.length = k := by omega
      obtain ⟨⟨v2, c22⟩, f2, F', r1, r2, r3⟩ := hS.done
      have R1 := Lib.hid r1
      have R2 := Lib.hid r2
      have R3 := Lib.hid r3
      clear r1 r2 r3 hS HR0 c2
      go_wp2
      go_ret
      exact ⟨rfl, F', R1.out, fun j hj => (R2.out j hj).imp id (Nat.le_trans HK1.out.size), HK1.out.trans' R3.out⟩

theorem disk_sync_off (w : World) (b : Nat) (d : Dsk) (F : Nat → Prop) (h : DiskAt w b d F) (hops : d.ops < 9223372036854775807) (hgo : d.goes = false) :
    Calls Tryz.prog 43 #[.pointer (some ⟨b, 0, none⟩)] w (RetNoWrite w b d.begun F opSync 0 9) := by
  have HG := Lib.hid (disk_gone w b d F h)
  have HC := fun w => Lib.hid (fault_new w opSync 0 9)
  have HB0 := disk_begin w b d F h hops
  rw [hgo] at HB0
  have HB := Lib.hid HB0
  have HbF := Lib.hid h.has
  clear h HB0 hgo
  generalize d.begun = d1 at *
  unfold opSync at HC
  go_enter Tryz.func43, Tryz.ntmps43
  go_wp2_with (first | (go_at_call 40; refine HG.out.mono ?_; rintro e w' ⟨rfl, rfl⟩) | (go_at_call 79; refine HB.out.mono ?_; rintro e w1 ⟨rfl, hD1, hk1⟩) | (go_at_call 31; refine (HC _).out.mono ?_; rintro e w2 ⟨g1, rfl, ho1, hk2⟩))
  go_ret
  refine ⟨g1, rfl, ho1.mono (fun j _ hj => Nat.le_trans hk1.size hj), hD1.kept hk2 (fun _ _ f => f), (hk1.mono (fun j _ hj => by rw [show j = b from hj]; exact HbF.out)).then hk2⟩
end Go.Proofs.YthppgchmamonnaaGreatDoor
