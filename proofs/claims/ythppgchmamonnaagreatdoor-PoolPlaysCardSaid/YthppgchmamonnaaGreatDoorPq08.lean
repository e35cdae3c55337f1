/- Disk: Sync. The document's own disk (pergolaref8.Disk): what it is in memory, beside the plain model Dsk; place, full, op, NewDisk, Cut, Read. The document's own disk: op, Cut, full, Read. The document's own disk: Read. The document's own disk: NewDisk. The document's own disk: Sync. -/
import Derived.Test.YthppgchmamonnaaGreatDoorPq02
import Derived.Test.YthppgchmamonnaaGreatDoorPq04
import Derived.Test.YthppgchmamonnaaGreatDoorPq07
namespace Go.Proofs.YthppgchmamonnaaGreatDoor
open Go.RowKit
def FixFacts (w : World) (b k : Nat) (d : Dsk) (F : Nat → Prop) (g nn cap gn cn : Nat) (vk sk : Value) : Prop :=
  ∀ w2 b1 cap1, Own w2 5 (.slice b1 (d.now.getD k []).length cap1) (d.now.getD k []) (From w.heap.size) → Kept Nob w.drew w2 →
    w2.cell? ⟨b, 0, none⟩ = some (.slice (some ⟨g, 0, none⟩) nn cap) ∧ w2.cell? ⟨b, 1, none⟩ = some (.slice (some ⟨gn, 0, none⟩) nn cn) ∧ w2.cell? ⟨gn, k, none⟩ = some sk ∧
    w2.cell? ⟨g, k, none⟩ = some vk ∧ w2.frozen? ⟨g, k, none⟩ = false ∧
    ∃ F', DiskAt (w2.setCell ⟨g, k, none⟩ (.slice b1 (d.now.getD k []).length cap1)) b { d with good := d.good.set k (d.now.getD k []) } F' ∧ Grows F w.heap.size F' ∧ F g ∧ Kept (Just g) w (w2.setCell ⟨g, k, none⟩ (.slice b1 (d.now.getD k []).length cap1))
theorem DiskAt.forFix {w : World} {b : Nat} {d : Dsk} {F : Nat → Prop} (h : DiskAt w b d F) {k : Nat} (hk : k < d.good.length) (hmk : (k : Int) ∈ d.order) :
    ∃ g nn cap gn cn vk sb sn sc, w.cell? ⟨b, 0, none⟩ = some (.slice (some ⟨g, 0, none⟩) nn cap) ∧ w.cell? ⟨b, 1, none⟩ = some (.slice (some ⟨gn, 0, none⟩) nn cn) ∧ w.cell? ⟨gn, k, none⟩ = some (.slice sb sn sc) ∧
      Reads w (.slice sb sn sc) (d.now.getD k []) F ∧ k < nn ∧ nn ≤ 8192 ∧ b ≠ g ∧ gn ≠ g ∧ (∃ cur, w.heap[g]? = some (.cells cur 50 (0, 0))) ∧ FixFacts w b k d F g nn cap gn cn vk (.slice sb sn sc) := by
  obtain ⟨gv, nv, ov, hb, hF, ⟨gs, hg, hg2⟩, ⟨vs, hn, hn2⟩, ho, ha, hw, hu⟩ := h
  have hkg : k < gs.length := by rw [hg2.len]; exact hk
  have hkv : k < vs.length := by rw [hn2.len, hw.len]; exact hk
  have hkn : k < d.now.length := by rw [hw.len]; exact hk
  have hgl : gs.length = vs.length := by rw [hg2.len, hn2.len, hw.len]
  obtain ⟨g, cap, rfl⟩ : ∃ g cap, gv = .slice (some ⟨g, 0, none⟩) gs.length cap := by
    rcases hg.shape with ⟨_, hz⟩ | ⟨g, c', cur, hx, _⟩
    · simp [hz] at hkg
    · exact ⟨g, c', hx⟩
  obtain ⟨gn, cn, rfl⟩ : ∃ g cap, nv = .slice (some ⟨g, 0, none⟩) gs.length cap := by
    rw [hgl]
    rcases hn.shape with ⟨_, hz⟩ | ⟨g, c', cur, hx, _⟩
    · simp [hz] at hkv
    · exact ⟨g, c', hx⟩
  have e1 : d.now.getD k [] = d.now[k] := by rw [List.getD_eq_getElem?_getD, List.getElem?_eq_getElem hkn]; rfl
  have hsec := hn2.own k vs[k] d.now[k] (List.getElem?_eq_getElem hkv) (List.getElem?_eq_getElem hkn)
  have hS := hw.now d.now[k] (List.getElem_mem hkn)
  rw [← e1] at hsec hS
  obtain ⟨sb, sc, hvk, _⟩ := hsec.reads.shape
  have hcn := hn.cell k vs[k] (List.getElem?_eq_getElem hkv)
  rw [hvk] at hcn hsec
  have hgF : F g := hg.2 g rfl
  have hgw : g < w.heap.size := hu g hgF
  have hgnw : gn < w.heap.size := hu gn (hn.2 gn rfl)
  have hbb : b < w.heap.size := hu b hF
  obtain ⟨cur, hgb⟩ := hg.blockIs (g := g) rfl
  have hbg : b ≠ g := fun e => by rw [e, hgb] at hb; simp at hb
  have hgng : gn ≠ g := fun e => ha g rfl (by rw [e]; rfl)
  refine ⟨g, gs.length, cap, gn, cn, gs[k], sb, (d.now.getD k []).length, sc, cell_at hb 0 _ rfl, cell_at hb 1 _ rfl, hcn, hsec.reads, hkg, by rw [hg2.len]; exact hw.most, hbg, hgng, ⟨cur, hgb⟩, fun w2 b1 cap1 h1 h2 => ?_⟩
  have h2' : Kept Nob w w2 := h2.drewL
  have hgb2 : w2.heap[g]? = some (.cells cur 50 (0, 0)) := (h2'.block g hgw (fun f => f)).trans hgb
  have hb2 : w2.heap[b]? = _ := (h2'.block b hbb (fun f => f)).trans hb
  have hks := kept1 w2 g k (.slice b1 (d.now.getD k []).length cap1)
  have hst := OwnRows.store (w := w) (w1 := w2) (by decide) (⟨gs, hg, hg2⟩ : OwnRows w 50 5 (.slice (some ⟨g, 0, none⟩) gs.length cap) d.good F) h2' h1 k
  refine ⟨(h2'.cell (p := ⟨b, 0, none⟩) hbb (fun f => f)).trans (cell_at hb 0 _ rfl), (h2'.cell (p := ⟨b, 1, none⟩) hbb (fun f => f)).trans (cell_at hb 1 _ rfl), (h2'.cell (p := ⟨gn, k, none⟩) hgnw (fun f => f)).trans hcn,
    (h2'.cell (p := ⟨g, k, none⟩) hgw (fun f => f)).trans (hg.cell k gs[k] (List.getElem?_eq_getElem hkg)), (h2'.frozen (p := ⟨g, k, none⟩) hgw (fun f => f)).trans (hg.frozen k),
    _, ⟨_, _, ov, (hks.block b (Nat.lt_of_lt_of_le hbb h2'.size) hbg).trans hb2, .inl hF, hst.1, ?_, ?_, ?_, ?_, ?_⟩, ?_, hgF, ?_⟩
  · have hn1 := hn.kept h2' (fun _ _ f => f)
    have hn21 := hn2.kept h2' (fun _ _ f => f)
    refine ⟨vs, (hn1.keptT hks fun j hj => ?_).mono (fun j _ h => .inl h), ⟨hn21.len, fun i u y c1 c2 => ((hn21.own i u y c1 c2).keptT hks fun j hj => ?_).mono (fun j _ h => .inl h), hn21.apart⟩⟩
    · rw [show j = g from hj]; exact fun e => hgng (by simpa [Value.ownBlock] using e)
    · rw [show j = g from hj]; exact (hn21.own i u y c1 c2).not_in hgb2 (by decide)
  · have ho1 := ho.kept h2' (fun _ _ f => f)
    exact (ho1.keptT hks fun j hj => by rw [show j = g from hj]; exact ho1.not_in hgb2 (by decide)).mono (fun j _ h => .inl h)
  · exact ha
  · refine { hw with len := by simpa using hw.len, pos := by simpa using hw.pos, most := by simpa using hw.most, good := Dsk.Sectors.set hw.good k hS, order := fun j hj => by simpa using hw.order j hj, calm := fun i hi hn => ?_ }
    have hik : k ≠ i := fun e => hn (e ▸ hmk)
    show _ = (d.good.set k (d.now.getD k [])).getD i []
    rw [List.getD_eq_getElem?_getD (l := d.good.set _ _), List.getElem?_set_ne hik, ← List.getD_eq_getElem?_getD]
    exact hw.calm i (by simpa using hi) hn
  · intro j hj
    have s1 := h2'.size
    have s2 := hks.size
    rcases hj with hj | hj
    · have := hu j hj; omega
    · omega
  · intro j hj
    rcases hj with hj | hj
    · exact .inl hj
    · exact .inr hj.1
  · exact h2'.nob.trans' hks
def SyncRel (w : World) (b : Nat) (d : Dsk) (F : Nat → Prop) (ov : Value) (k : Nat) (wr : World) : Prop :=
  Own wr 3 ov (d.order.map (Value.int .i64)) F ∧ ∃ F', DiskAt wr b { d with good := Dsk.settle d.now (d.order.take k) d.good } F' ∧ Grows F w.heap.size F' ∧ Kept F w wr
theorem SyncRel.done {w wr : World} {b : Nat} {d : Dsk} {F : Nat → Prop} {ov0 : Value} (h : SyncRel w b d F ov0 d.order.length wr) :
    (∃ v, wr.cell? ⟨b, 2, none⟩ = some v) ∧ wr.frozen? ⟨b, 2, none⟩ = false ∧ ∃ F', DiskAt (wr.setCell ⟨b, 2, none⟩ (.slice none 0 0)) b { d with good := Dsk.settle d.now d.order d.good, order := [] } F' ∧ Grows F w.heap.size F' ∧ Kept F w (wr.setCell ⟨b, 2, none⟩ (.slice none 0 0)) := by
  obtain ⟨-, F', ⟨gv, nv, ov, hb, hF, hg, hn, ho, ha, hw, hu⟩, hgr, hk⟩ := h
  rw [List.take_length] at hg hw
  have hks := kept1 wr b 2 (.slice none 0 0)
  have hd : ∀ j, Just b j → ∃ cs e' fz, wr.heap[j]? = some (.cells cs e' fz) ∧ e' ≠ 50 ∧ e' ≠ 5 := fun j hj => by
    rw [show j = b from hj]; exact ⟨_, _, _, hb, by decide, by decide⟩
  refine ⟨⟨_, cell_at hb 2 _ rfl⟩, frozen_at hb 2, F', ⟨gv, nv, .slice none 0 0, heap_set wr b 2 _ _ _ hb, hF, hg.keptT hks hd, hn.keptT hks hd, Own.nil _ _ _, ha, ?_, hu.mono hks.size⟩, hgr, ?_⟩
  · refine { hw with order := by simp, once := by simp, calm := fun i hi _ => ?_ }
    have hi' : i < d.good.length := by simpa [Dsk.settle_length] using hi
    show d.now.getD i [] = (Dsk.settle d.now d.order d.good).getD i []
    rw [Dsk.settle_getD _ _ _ _ (fun k hk => (hw.order k hk).1) hi']
    split
    · rfl
    · rename_i hn
      have := hw.calm i hi hn
      show d.now.getD i [] = _
      rw [show d.now.getD i [] = (Dsk.settle d.now d.order d.good).getD i [] from this, Dsk.settle_getD _ _ _ _ (fun k hk => (hw.order k hk).1) hi', if_neg hn]
  · have : Grows F w.heap.size F' := hgr
    refine hk.trans (hks.mono (G := F') fun j _ hj => by rw [show j = b from hj]; exact hF) fun j hj hFj => ?_
    rcases this j hFj with h | h
    · exact h
    · omega
theorem SyncRel.step {w wr w3 : World} {b g : Nat} {d : Dsk} {F F' F3 : Nat → Prop} {ov : Value} {k a : Nat} (hk : k < d.order.length) (ha : d.order[k] = (a : Int)) (hov : Own wr 3 ov (d.order.map (Value.int .i64)) F) (hgr : Grows F w.heap.size F') (hw : Kept F w wr)
    (hg : ∃ cur, wr.heap[g]? = some (.cells cur 50 (0, 0))) (hgF : F' g) (hD : DiskAt w3 b { d with good := (Dsk.settle d.now (d.order.take k) d.good).set a (d.now.getD a []) } F3) (hg3 : Grows F' wr.heap.size F3) (hk3 : Kept (Just g) wr w3) : SyncRel w b d F ov (k + 1) w3 := by
  have e : Dsk.settle d.now (d.order.take (k + 1)) d.good = (Dsk.settle d.now (d.order.take k) d.good).set a (d.now.getD a []) := by
    rw [List.take_succ_eq_append_getElem hk, Dsk.settle_snoc, ha]; rfl
  refine ⟨hov.keptT hk3 fun j hj => ?_, F3, by rw [e]; exact hD, hgr.trans hg3 hw.size, hw.trans hk3 fun j hj hj' => ?_⟩
  · obtain ⟨cur, hc⟩ := hg
    rw [show j = g from hj]; exact hov.not_in hc (by decide)
  · rw [show j = g from hj'] at hj ⊢
    rcases hgr g hgF with h | h
    · exact h
    · omega
set_option maxHeartbeats 1000000 in
theorem disk_sync (w : World) (b : Nat) (d : Dsk) (F : Nat → Prop) (h : DiskAt w b d F) (hops : d.ops < 9223372036854775807) (hgo : d.goes = true) :
    Calls Tryz.prog 43 #[.pointer (some ⟨b, 0, none⟩)] w (RetWrite w b d.sync.1 F) := by
  have HG := Lib.hid (disk_gone w b d F h)
  have HB0 := disk_begin w b d F h hops
  have hsy : d.sync.1 = { d.begun with good := Dsk.settle d.begun.now d.begun.order d.begun.good, order := [] } := by simp [Dsk.sync, hgo]; rfl
  rw [hgo] at HB0
  rw [hsy]
  have HB := Lib.hid HB0
  have HbF := Lib.hid h.has
  clear HB0 hgo hsy h
  generalize d.begun = d1 at *
  go_enter Tryz.func43, Tryz.ntmps43
  go_wp2_with (go_at_call 40; refine HG.out.mono ?_; rintro e w' ⟨rfl, rfl⟩)
  refine HB.out.mono ?_
  rintro e w1 ⟨rfl, hD1, hk1⟩
  have HK1 := Lib.hid (hk1.mono (G := F) fun j _ hj => by rw [show j = b from hj]; exact HbF.out)
  have HD1 := Lib.hid hD1
  obtain ⟨gv, nv, ov, hb, hF, hg, hn, ho, ha, hw, hu⟩ := hD1
  obtain ⟨oa, oc, rfl, _⟩ := ho.reads.shape
  have c2 := cell_at hb 2 _ rfl
  have HO := Lib.hid ho
  have HW := Lib.hid hw
  have HBB := Lib.hid hb
  have hol := hw.orderLen
  clear hk1 hb hF hg hn ha hw hu ho
  simp only [List.length_map] at c2 HO
  go_wp2_with fail
  have HR0 : Hid (SyncRel w1 b d1 F (.slice oa d1.order.length oc) 0 w1) := ⟨HO.out, F, HD1.out, Grows.refl _ _, Kept.refl _ _⟩
  go_loopw [19] (fun i wr => ∃ k : Nat, k ≤ d1.order.length ∧ i = .int .i64 k ∧ SyncRel w1 b d1 F (.slice oa d1.order.length oc) k wr) (fun i _ => d1.order.length - (intOf i).toNat)
  case atStart => exact ⟨0, Nat.zero_le _, rfl, HR0.out⟩
  case round =>
    obtain ⟨k, hk, rfl, hS⟩ := hrel
    by_cases hlt : k < d1.order.length
    · obtain ⟨hov, F', hD, hgr, hkw⟩ := hS
      obtain ⟨a, ha⟩ : ∃ a : Nat, d1.order[k] = (a : Int) := ⟨d1.order[k].toNat, by have := (HW.out.order _ (List.getElem_mem hlt)).1; omega⟩
      have hal : a < d1.good.length := by have := HW.out.order _ (List.getElem_mem hlt); omega
      obtain ⟨go, rfl⟩ : ∃ go, oa = some ⟨go, 0, none⟩ := by
        rcases hov.shape with ⟨hx, hz⟩ | ⟨g, c', cur, hx, _⟩
        · simp at hz; rw [hz] at hlt; simp at hlt
        · simp at hx; exact ⟨g, hx.1⟩
      have co : wr.cell? ⟨go, k, none⟩ = some (.int .i64 a) := hov.cell k _ (by rw [List.getElem?_map, List.getElem?_eq_getElem hlt, ha]; rfl)
      obtain ⟨g, nn, cap, gn, cn, vk, sb, sn, sc, c0, c1, c3, hsr, hkn, hnn, hbg, hgg, hcur, hFF⟩ := hD.forFix (k := a) (by simp only [Dsk.settle_length]; exact hal) (by rw [← ha]; exact List.getElem_mem hlt)
      have hX : ((d1.now.getD a []).length = 64) ∧ ∀ u ∈ d1.now.getD a [], IsByte u := Dsk.Sectors.getD HW.out.now (by rw [HW.out.len]; exact hal)
      have HFx := Lib.hid hFF
      have HOV := Lib.hid hov
      have HGR := Lib.hid hgr
      have HKW := Lib.hid hkw
      have HCU := Lib.hid hcur
      have HA := Lib.hid ha
      have HCl := Lib.hid (clone_bytes wr.drew _ _ _ hsr.drew hX.2 (by rw [hX.1]; omega))
      have i0 : (0 : Int) ≤ (a : Int) := Int.natCast_nonneg _
      have i1 : (a : Int) < (nn : Int) := by omega
      clear hov hD hgr hkw hFF hX ha hsr hcur HR0 c2
      go_wp2_with fail
      go_region_held3 (fun w' => w'.cell? ⟨b, 0, none⟩ = some (.slice (some ⟨g, 0, none⟩) nn cap) ∧ w'.cell? ⟨b, 1, none⟩ = some (.slice (some ⟨gn, 0, none⟩) nn cn) ∧ w'.cell? ⟨gn, a, none⟩ = some (.slice sb sn sc)) (first | go_keep | (go_split_ands; refine ⟨?_, ?_, ?_⟩ <;> first | (rw [setCell_far hbg]; assumption) | (rw [setCell_far hgg]; assumption)))
        ((go_at_call 62; refine HCl.out.mono ?_; rintro e w2 ⟨b2, cap2, rfl, ho2, hk2, hn2⟩; have HQ := Lib.hid (HFx.out w2 b2 cap2 ho2 hk2); have q1 := HQ.out.1; have q2 := HQ.out.2.1; have q3 := HQ.out.2.2.1; have q4 := HQ.out.2.2.2.1; have q5 := HQ.out.2.2.2.2.1))
      go_wp2
      obtain ⟨_, _, _, _, _, F3, r1, r2, r3, r4⟩ := HQ.out
      have HN := Lib.hid (SyncRel.step hlt HA.out HOV.out HGR.out HKW.out HCU.out r3 r1 r2 r4)
      clear r1 r2 r3 r4
      go_roundw
      case rel => exact ⟨k + 1, by omega, by go_num, HN.out⟩
      case measure => simp [intOf]; omega
    · obtain rfl : d1.order.length = k := by omega
      obtain ⟨⟨v2, c22⟩, f2, F', r1, r2, r3⟩ := hS.done
      have R1 := Lib.hid r1
      have R2 := Lib.hid r2
      have R3 := Lib.hid r3
      clear r1 r2 r3 hS HR0 c2
      go_wp2
      go_ret
      exact ⟨rfl, F', R1.out, fun j hj => (R2.out j hj).imp id (Nat.le_trans HK1.out.size), HK1.out.trans' R3.out⟩
theorem disk_sync_off (w : World) (b : Nat) (d : Dsk) (F : Nat → Prop) (h : DiskAt w b d F) (hops : d.ops < 9223372036854775807) (hgo : d.goes = false) :
    Calls Tryz.prog 43 #[.pointer (some ⟨b, 0, none⟩)] w (RetNoWrite w b d.begun F opSync 0 9) := by
  have HG := Lib.hid (disk_gone w b d F h)
  have HC := fun w => Lib.hid (fault_new w opSync 0 9)
  have HB0 := disk_begin w b d F h hops
  rw [hgo] at HB0
  have HB := Lib.hid HB0
  have HbF := Lib.hid h.has
  clear h HB0 hgo
  generalize d.begun = d1 at *
  unfold opSync at HC
  go_enter Tryz.func43, Tryz.ntmps43
  go_wp2_with (first | (go_at_call 40; refine HG.out.mono ?_; rintro e w' ⟨rfl, rfl⟩) | (go_at_call 79; refine HB.out.mono ?_; rintro e w1 ⟨rfl, hD1, hk1⟩) | (go_at_call 31; refine (HC _).out.mono ?_; rintro e w2 ⟨g1, rfl, ho1, hk2⟩))
  go_ret
  refine ⟨g1, rfl, ho1.mono (fun j _ hj => Nat.le_trans hk1.size hj), hD1.kept hk2 (fun _ _ f => f), (hk1.mono (fun j _ hj => by rw [show j = b from hj]; exact HbF.out)).then hk2⟩
def GoodRow (w : World) (v : Value) (x : List Value) (R : Nat → Prop) : Prop := (Reads w v x R ∧ x.length = 64) ∨ (v = .slice none 0 0 ∧ x = Dsk.zeroSector)
theorem GoodRow.kept {w w' : World} {v : Value} {x : List Value} {R G : Nat → Prop} (h : GoodRow w v x R) (hk : Kept G w w') (hd : ∀ k, R k → ¬ G k) : GoodRow w' v x R := by
  rcases h with h | h
  · exact .inl ⟨h.1.kept hk hd, h.2⟩
  · exact .inr h
theorem GoodRow.mono {w : World} {v : Value} {x : List Value} {R S : Nat → Prop} (h : GoodRow w v x R) (hg : ∀ k, k < w.heap.size → R k → S k) : GoodRow w v x S := by
  rcases h with h | h
  · exact .inl ⟨h.1.mono hg, h.2⟩
  · exact .inr h
def GoodRows (w : World) (gs : List Value) (xss : List (List Value)) (R : Nat → Prop) : Prop := gs.length = xss.length ∧ ∀ (i : Nat) (v : Value) (x : List Value), gs[i]? = some v → xss[i]? = some x → GoodRow w v x R
def WaitRows (w : World) (ns : List Value) (order : List Int) (now : List (List Value)) (R : Nat → Prop) : Prop := ns.length = order.length ∧ ∀ (i : Nat) (v : Value) (k : Int), ns[i]? = some v → order[i]? = some k → Reads w v (now.getD k.toNat []) R
theorem GoodRows.kept {w w' : World} {gs : List Value} {xss : List (List Value)} {R G : Nat → Prop} (h : GoodRows w gs xss R) (hk : Kept G w w') (hd : ∀ k, R k → ¬ G k) : GoodRows w' gs xss R := ⟨h.1, fun i v x h1 h2 => (h.2 i v x h1 h2).kept hk hd⟩
theorem GoodRows.mono {w : World} {gs : List Value} {xss : List (List Value)} {R S : Nat → Prop} (h : GoodRows w gs xss R) (hg : ∀ k, k < w.heap.size → R k → S k) : GoodRows w gs xss S := ⟨h.1, fun i v x h1 h2 => (h.2 i v x h1 h2).mono hg⟩
theorem WaitRows.kept {w w' : World} {ns : List Value} {order : List Int} {now : List (List Value)} {R G : Nat → Prop} (h : WaitRows w ns order now R) (hk : Kept G w w') (hd : ∀ k, R k → ¬ G k) : WaitRows w' ns order now R := ⟨h.1, fun i v x h1 h2 => (h.2 i v x h1 h2).kept hk hd⟩
theorem WaitRows.mono {w : World} {ns : List Value} {order : List Int} {now : List (List Value)} {R S : Nat → Prop} (h : WaitRows w ns order now R) (hg : ∀ k, k < w.heap.size → R k → S k) : WaitRows w ns order now S := ⟨h.1, fun i v x h1 h2 => (h.2 i v x h1 h2).mono hg⟩
def DocAt (w : World) (m : Nat) (d : Dsk) (R : Nat → Prop) : Prop :=
  ∃ gv av nv gs ns left, w.heap[m]? = some (.cells #[gv, av, nv, .int .i64 d.ops, .bool d.cut, .int .i64 left, .bool d.off] 119 (0, 0)) ∧ ¬ R m ∧
    Reads w gv gs R ∧ Reads w av (d.order.map (Value.int .i64)) R ∧ Reads w nv ns R ∧ GoodRows w gs d.good R ∧ WaitRows w ns d.order d.now R ∧
    max left 0 = d.left ∧ -9223372036854775808 ≤ left ∧ left ≤ 9223372036854775807 ∧ d.Wf ∧ Under R w.heap.size
theorem DocAt.wf {w : World} {m : Nat} {d : Dsk} {R : Nat → Prop} (h : DocAt w m d R) : d.Wf := by obtain ⟨_, _, _, _, _, _, _, _, _, _, _, _, _, _, _, _, h, _⟩ := h; exact h
theorem DocAt.under {w : World} {m : Nat} {d : Dsk} {R : Nat → Prop} (h : DocAt w m d R) : Under R w.heap.size := by obtain ⟨_, _, _, _, _, _, _, _, _, _, _, _, _, _, _, _, _, h⟩ := h; exact h
theorem DocAt.lt {w : World} {m : Nat} {d : Dsk} {R : Nat → Prop} (h : DocAt w m d R) : m < w.heap.size := by obtain ⟨_, _, _, _, _, _, hb, _⟩ := h; exact (Array.getElem?_eq_some_iff.1 hb).1
theorem DocAt.kept {w w' : World} {m : Nat} {d : Dsk} {R G : Nat → Prop} (h : DocAt w m d R) (hk : Kept G w w') (hm : ¬ G m) (hd : Disj R G) : DocAt w' m d R := by
  have hlt := h.lt
  obtain ⟨gv, av, nv, gs, ns, left, hb, hR, h1, h2, h3, h4, h5, h6, h7, h8, hw, hu⟩ := h
  exact ⟨gv, av, nv, gs, ns, left, (hk.block m hlt hm).trans hb, hR, h1.kept hk hd, h2.kept hk hd, h3.kept hk hd, h4.kept hk hd, h5.kept hk hd, h6, h7, h8, hw, hu.mono hk.size⟩
theorem DocAt.scalars {w w' : World} {m : Nat} {d d' : Dsk} {R : Nat → Prop} {gv av nv : Value} {gs ns : List Value} {left' : Int}
    (hR : ¬ R m)
    (h1 : Reads w gv gs R) (h2 : Reads w av (d.order.map (Value.int .i64)) R) (h3 : Reads w nv ns R) (h4 : GoodRows w gs d.good R) (h5 : WaitRows w ns d.order d.now R) (hu : Under R w.heap.size)
    (hk : Kept (Just m) w w') (hb' : w'.heap[m]? = some (.cells #[gv, av, nv, .int .i64 d'.ops, .bool d'.cut, .int .i64 left', .bool d'.off] 119 (0, 0)))
    (e1 : d'.good = d.good) (e2 : d'.now = d.now) (e3 : d'.order = d.order) (h6 : max left' 0 = d'.left) (h7 : -9223372036854775808 ≤ left') (h8 : left' ≤ 9223372036854775807) (hw : d'.Wf) : DocAt w' m d' R := by
  have hd : ∀ k, R k → ¬ Just m k := fun k hk hj => hR (by rw [show k = m from hj] at hk; exact hk)
  exact ⟨gv, av, nv, gs, ns, left', hb', hR, h1.kept hk hd, by rw [e3]; exact h2.kept hk hd, h3.kept hk hd, by rw [e1]; exact h4.kept hk hd, by rw [e2, e3]; exact h5.kept hk hd, h6, h7, h8, hw, hu.mono hk.size⟩
theorem doc_place (w : World) (m : Nat) (d : Dsk) (R : Nat → Prop) (h : DocAt w m d R) (x : Int) :
    Calls Tryz.prog 110 #[.pointer (some ⟨m, 0, none⟩), .int .i64 x] w fun e w' => e = .returned (.int .i64 (idx x d.order 0)) ∧ w = w' := by
  obtain ⟨gv, av, nv, gs, ns, left, hb, -, -, hr, -, -, -, -, -, -, hw, -⟩ := h
  have hol := hw.orderLen
  have c1 := cell_at hb 1 _ rfl
  clear hb hw
  generalize d.order = xs at *
  obtain ⟨ad, cap, rfl, _⟩ := hr.shape
  have hc : ∀ k (h : k < xs.length), ∃ b o, ad = some ⟨b, o, none⟩ ∧ w.cell? ⟨b, o + k, none⟩ = some (.int .i64 xs[k]) := by
    intro k h
    rcases hr with ⟨hx, _⟩ | ⟨b, o, c, hv, _, _, _, hc⟩
    · simp at hx; simp [hx] at h
    · simp at hv
      exact ⟨b, o, hv.1, hc k _ (by simp [h])⟩
  have HC := Lib.hid hc
  clear hc hr
  simp only [List.length_map] at c1
  go_enter Tryz.func110, Tryz.ntmps110
  go_wp2
  go_loop [5] (fun i => ∃ k : Nat, k ≤ xs.length ∧ i = .int .i64 k ∧ Hid (idx x xs 0 = idx x (xs.drop k) k)) (fun i => xs.length - (intOf i).toNat)
  case atStart => exact ⟨0, Nat.zero_le _, rfl, rfl⟩
  case round =>
    obtain ⟨k, hk, rfl, hidx⟩ := hrel
    by_cases hlt : k < xs.length
    · obtain ⟨b, o, rfl, hcell⟩ := HC.out k hlt
      have hd := Lib.hid (idx_drop x xs k k hlt)
      by_cases hx : xs[k] = x
      · have hxb : (xs[k] == x) = true := by simpa using hx
        have HX := Lib.hid hx
        clear hx
        go_wp2
        go_ret
        refine ⟨?_, rfl⟩
        rw [hidx.out, hd.out, if_pos HX.out.symm]
        rfl
      · have hxb : (xs[k] == x) = false := by simpa using hx
        have HX := Lib.hid hx
        clear hx
        go_wp2
        go_round
        case rel => exact ⟨k + 1, by omega, by go_num, show _ = _ by rw [hidx.out, hd.out, if_neg (fun q => HX.out q.symm)]⟩
        case measure => simp [intOf]; omega
    · go_wp2
      go_ret
      refine ⟨?_, rfl⟩
      rw [hidx.out, List.drop_of_length_le (by omega)]
      rfl
theorem doc_op (w : World) (m : Nat) (d : Dsk) (R : Nat → Prop) (h : DocAt w m d R) (hops : d.ops < 9223372036854775807) :
    Calls Tryz.prog 109 #[.pointer (some ⟨m, 0, none⟩)] w fun e w' => e = .returned (.bool d.goes) ∧ DocAt w' m d.begun R ∧ Kept (Just m) w w' := by
  obtain ⟨gv, av, nv, gs, ns, left, hb, hR, h1, h2, h3, h4, h5, h6, h7, h8, hw, hu⟩ := h
  have c3 := cell_at hb 3 _ rfl
  have c4 := cell_at hb 4 _ rfl
  have c5 := cell_at hb 5 _ rfl
  have c6 := cell_at hb 6 _ rfl
  have f3 := frozen_at hb 3
  have f5 := frozen_at hb 5
  have f6 := frozen_at hb 6
  have hfin := fun w' l' hk hb' q1 q2 q3 => DocAt.scalars (w := w) (w' := w') (d' := d.begun) (left' := l') hR h1 h2 h3 h4 h5 hu hk hb' rfl rfl rfl q1 q2 q3 hw.begun
  have HF := Lib.hid hfin
  have HB := Lib.hid hb
  have H6 := Lib.hid h6
  have o1 := hw.ops
  clear hfin hb h1 h2 h3 h4 h5 hw hu hR h6
  obtain ⟨good, now, order, ops, cut, dl, off⟩ := d
  simp only at *
  cases off
  · cases cut
    · go_enter Tryz.func109, Tryz.ntmps109
      go_wp2
      go_ret
      refine ⟨ret_bool (by simp [Dsk.goes]), HF.out _ left ?_ ?_ ?_ (by omega) (by omega), ?_⟩
      · with_reducible exact kept1 w m _ _
      · (with_reducible refine (heap_set w m _ _ _ _ HB.out).trans ?_); simp [Dsk.begun, Dsk.goes]
      · simpa [Dsk.begun, Dsk.goes] using H6.out
      · with_reducible exact kept1 w m _ _
    · by_cases hl : left < 1
      · go_enter Tryz.func109, Tryz.ntmps109
        go_wp2
        go_ret
        have h6 := H6.out
        have hd1 : dl < 1 := by omega
        refine ⟨ret_bool (by simp [Dsk.goes, hd1]), HF.out _ left ?_ ?_ ?_ (by omega) (by omega), ?_⟩
        · with_reducible exact kept2 w m _ _ _ _
        · (with_reducible refine (heap2 w m _ _ _ _ _ _ HB.out).trans ?_); simp [Dsk.begun, Dsk.goes, hd1]
        · simpa [Dsk.begun, Dsk.goes, hd1] using h6
        · with_reducible exact kept2 w m _ _ _ _
      · go_enter Tryz.func109, Tryz.ntmps109
        go_wp2
        go_ret
        have h6 := H6.out
        have hd1 : ¬ dl < 1 := by omega
        refine ⟨ret_bool (by simp [Dsk.goes, hd1]), HF.out _ (left - 1) ?_ ?_ ?_ (by omega) (by omega), ?_⟩
        · with_reducible exact kept2 w m _ _ _ _
        · (with_reducible refine (heap2 w m _ _ _ _ _ _ HB.out).trans ?_); simp [Dsk.begun, Dsk.goes, hd1]
        · simp [Dsk.begun, Dsk.goes, hd1]; omega
        · with_reducible exact kept2 w m _ _ _ _
  · go_enter Tryz.func109, Tryz.ntmps109
    go_wp2
    go_ret
    refine ⟨ret_bool (by simp [Dsk.goes]), HF.out _ left ?_ ?_ ?_ (by omega) (by omega), ?_⟩
    · with_reducible exact kept1 w m _ _
    · (with_reducible refine (heap_set w m _ _ _ _ HB.out).trans ?_); simp [Dsk.begun, Dsk.goes]
    · simpa [Dsk.begun, Dsk.goes] using H6.out
    · with_reducible exact kept1 w m _ _
theorem doc_cut (w : World) (m : Nat) (d : Dsk) (R : Nat → Prop) (h : DocAt w m d R) (n : Int) (hn0 : -9223372036854775808 ≤ n) (hn : n ≤ 9223372036854775807) :
    Calls Tryz.prog 59 #[.pointer (some ⟨m, 0, none⟩), .int .i64 n] w fun e w' => e = .returned (.tuple #[]) ∧ DocAt w' m (d.slash n) R ∧ Kept (Just m) w w' := by
  obtain ⟨gv, av, nv, gs, ns, left, hb, hR, h1, h2, h3, h4, h5, h6, h7, h8, hw, hu⟩ := h
  have c4 := cell_at hb 4 _ rfl
  have c5 := cell_at hb 5 _ rfl
  have f4 := frozen_at hb 4
  have f5 := frozen_at hb 5
  have hfin := fun w' l' hk hb' q1 q2 q3 => DocAt.scalars (w := w) (w' := w') (d' := d.slash n) (left' := l') hR h1 h2 h3 h4 h5 hu hk hb' rfl rfl rfl q1 q2 q3 (hw.slash hn)
  have HF := Lib.hid hfin
  have HB := Lib.hid hb
  clear hfin hb h1 h2 h3 h4 h5 hw hu hR h6
  go_enter Tryz.func59, Tryz.ntmps59
  go_wp2
  refine bodyPost_end (results_none rfl _ _ _) rfl ?_
  refine ⟨rfl, HF.out _ n ?_ ?_ rfl hn0 hn, ?_⟩
  · with_reducible exact kept2 w m _ _ _ _
  · (with_reducible refine (heap2 w m _ _ _ _ _ _ HB.out).trans ?_); simp [Dsk.slash]
  · with_reducible exact kept2 w m _ _ _ _
theorem doc_full (w : World) (v : Value) (x : List Value) (R : Nat → Prop) (h : GoodRow w v x R) :
    Calls Tryz.prog 98 #[v] w fun e w' => ∃ b c, e = .returned (.slice b 64 c) ∧ Reads w' (.slice b 64 c) x (Por R (From w.heap.size)) ∧ Kept Nob w w' := by
  have hmk := make64
  rcases h with ⟨hr, hx⟩ | ⟨rfl, rfl⟩
  · obtain ⟨a, c, rfl, -⟩ := hr.shape
    have HR := Lib.hid hr
    clear hr
    rw [hx] at HR ⊢
    go_enter Tryz.func98, Tryz.ntmps98
    go_wp2
    go_ret
    exact ⟨_, _, rfl, HR.out.mono (fun k _ q => .inl q), Kept.refl _ _⟩
  · go_enter Tryz.func98, Tryz.ntmps98
    go_wp2
    go_ret
    exact ⟨_, _, rfl, (own_zero64 w).reads.mono (fun k _ q => .inr q), Kept.alloc _ _ _⟩
theorem idx_at (x : Int) : ∀ (l : List Int) (k : Nat), x ∈ l → ∃ i : Nat, idx x l k = ((k + i : Nat) : Int) ∧ l[i]? = some x := by
  intro l
  induction l with
  | nil => intro k h; cases h
  | cons y r ih =>
    intro k h
    unfold idx
    by_cases hx : x = y
    · exact ⟨0, by rw [if_pos hx]; rfl, by simp [hx]⟩
    · obtain ⟨i, h1, h2⟩ := ih (k + 1) (by simpa [hx] using h)
      exact ⟨i + 1, by rw [if_neg hx, h1]; congr 1; omega, by simpa using h2⟩
def RetDocRead (w : World) (x : List Value) (R : Nat → Prop) (en : Ending) (w' : World) : Prop :=
  ∃ b c, en = .returned (.tuple #[.slice b 64 c, .int .i64 0]) ∧ Reads w' (.slice b 64 c) x (Por R (From w.heap.size)) ∧ Kept Nob w w'
theorem doc_read (w : World) (m : Nat) (d : Dsk) (R : Nat → Prop) (h : DocAt w m d R) (k : Nat) (hk : k < d.good.length) :
    Calls Tryz.prog 90 #[.pointer (some ⟨m, 0, none⟩), .int .i64 k] w (RetDocRead w (d.now.getD k []) R) := by
  have HP0 := doc_place w m d R h k
  obtain ⟨gv, av, nv, gs, ns, left, hb, hR, h1, -, h3, h4, h5, -, -, -, hw, -⟩ := h
  have c0 := cell_at hb 0 _ rfl
  have c2 := cell_at hb 2 _ rfl
  have hgl := h4.1
  have hm := hw.most
  obtain ⟨ga, gc, rfl, -⟩ := h1.shape
  obtain ⟨na, nc, rfl, -⟩ := h3.shape
  have hlt : decide ((gs.length : Int) ≤ (k : Int)) = false := by simp; omega
  have hol := hw.orderLen
  by_cases hmem : (k : Int) ∈ d.order
  · obtain ⟨i, hi, hik⟩ := idx_at (k : Int) d.order 0 hmem
    rw [hi] at HP0
    have HP := Lib.hid HP0
    have hil : i < d.order.length := (List.getElem?_eq_some_iff.1 hik).1
    obtain ⟨bn, on, v, rfl, hv, hc, -⟩ := h3.cell (i := i) (by rw [h5.1]; exact hil)
    have hrow := h5.2 i v k hv hik
    have e64 : (d.now.getD k []).length = 64 := (Dsk.Sectors.getD hw.now (by rw [hw.len]; exact hk)).1
    obtain ⟨a, c, rfl, -⟩ := hrow.shape
    rw [show ((k : Int).toNat) = k from rfl, e64] at hrow hc
    have HR := Lib.hid hrow
    have hnl := h5.1
    have i2 : i < ns.length := by omega
    clear hb hR h1 h3 h4 h5 hw hmem hi hik HP0 hv hrow
    go_enter Tryz.func90, Tryz.ntmps90
    go_wp2_with (go_at_call 110; refine HP.out.mono ?_; rintro e w' ⟨rfl, rfl⟩)
    go_ret2
    exact ⟨_, _, rfl, HR.out.mono (fun j _ q => .inl q), Kept.refl _ _⟩
  · rw [idx_neg _ _ _ hmem] at HP0
    have HP := Lib.hid HP0
    obtain ⟨bg, og, v, rfl, hv, hc, -⟩ := h1.cell (i := k) (by omega)
    have hx : d.good[k]? = some (d.good.getD k []) := by rw [List.getD_eq_getElem?_getD, List.getElem?_eq_getElem hk]; rfl
    have hrow := h4.2 k v _ hv hx
    rw [← hw.calm k hk hmem] at hrow
    have HFull := Lib.hid (doc_full w v _ R hrow)
    have i2 : k < gs.length := by omega
    clear hb hR h1 h3 h4 h5 hw hmem HP0 hv hrow hx
    go_enter Tryz.func90, Tryz.ntmps90
    go_wp2_with (first | (go_at_call 110; refine HP.out.mono ?_; rintro e w' ⟨rfl, rfl⟩) | (go_at_call 98; refine HFull.out.mono ?_; rintro e w2 ⟨b, c, rfl, hr2, hk2⟩))
    go_ret2
    exact ⟨b, c, rfl, hr2, hk2⟩
def RetDocNew (w : World) (n : Nat) (en : Ending) (w' : World) : Prop :=
  ∃ m R, en = .returned (.tuple #[.pointer (some ⟨m, 0, none⟩), .int .i64 0]) ∧ DocAt w' m (Dsk.fresh n) R ∧ (∀ k, R k → w.heap.size ≤ k) ∧ w.heap.size ≤ m ∧ Kept Nob w w'
theorem doc_new (w : World) (n : Nat) (h1 : 1 ≤ n) (h2 : n ≤ 8192) :
    Calls Tryz.prog 47 #[.int .i64 n] w (RetDocNew w n) := by
  have a1 : decide ((n : Int) < 1) = false := by simp; omega
  have a2 : decide (8192 < (n : Int)) = false := by simp; omega
  go_enter Tryz.func47, Tryz.ntmps47
  go_wp2_with (at_make; refine wpList_make_pg rfl _ _ 70 rfl tRows rfl n .i64 .i64 rfl rfl (by omega) ?_; intro w2 ho2 hk2)
  go_ret2
  have s2 := hk2.size
  have ka := Kept.alloc Nob w2 (.cells #[.slice (some ⟨w.heap.size, 0, none⟩) n n, .slice none 0 0, .slice none 0 0, .int .i64 0, .bool false, .int .i64 0, .bool false] 119)
  have hlt : w.heap.size < w2.heap.size := ho2.blockLt (g := w.heap.size) rfl
  refine ⟨w2.heap.size, fun k => w.heap.size ≤ k ∧ k < w2.heap.size, rfl, ⟨.slice (some ⟨w.heap.size, 0, none⟩) n n, .slice none 0 0, .slice none 0 0, List.replicate n (.slice none 0 0), [], 0, ?_, by simp, ?_, .inl ⟨rfl, none, 0, rfl, fun _ => rfl⟩, .inl ⟨rfl, none, 0, rfl, fun _ => rfl⟩, ⟨by simp [Dsk.fresh], ?_⟩, ⟨rfl, ?_⟩, rfl, by omega, by omega, Dsk.Wf.fresh h1 h2, ?_⟩, fun k h => h.1, s2, hk2.then ka⟩
  · exact heap_alloc_new w2 _
  · exact (ho2.reads.mono fun k hk h => ⟨h, hk⟩).kept ka (fun _ _ f => f)
  · intro i v x hv hx
    rw [List.getElem?_replicate] at hv
    split at hv
    · rename_i hi
      have hx' : (List.replicate n Dsk.zeroSector)[i]? = some x := hx
      rw [List.getElem?_replicate, if_pos hi] at hx'
      exact .inr ⟨(Option.some.inj hv).symm, (Option.some.inj hx').symm⟩
    · cases hv
  · intro i v k hv
    simp at hv
  · intro k hk
    have := ka.size
    exact Nat.lt_of_lt_of_le hk.2 this
theorem doc_sync_off (w : World) (m : Nat) (d : Dsk) (R : Nat → Prop) (h : DocAt w m d R) (hops : d.ops < 9223372036854775807) (hgo : d.goes = false) :
    Calls Tryz.prog 88 #[.pointer (some ⟨m, 0, none⟩)] w fun e w' => e = .returned (.int .i64 9) ∧ DocAt w' m d.begun R ∧ Kept (Just m) w w' := by
  have HO0 := doc_op w m d R h hops
  rw [hgo] at HO0
  have HO := Lib.hid HO0
  clear h HO0 hgo
  go_enter Tryz.func88, Tryz.ntmps88
  go_wp2_with (go_at_call 109; refine HO.out.mono ?_; rintro e w1 ⟨rfl, hD1, hk1⟩)
  go_ret
  exact ⟨rfl, hD1, hk1⟩
def DocSync (w1 : World) (m : Nat) (d : Dsk) (R : Nat → Prop) (av nv : Value) (left : Int) (g cap : Nat) (k : Nat) (wr : World) : Prop :=
  ∃ gs, wr.heap[m]? = some (.cells #[.slice (some ⟨g, 0, none⟩) gs.length cap, av, nv, .int .i64 d.ops, .bool d.cut, .int .i64 left, .bool d.off] 119 (0, 0)) ∧
    Own wr 50 (.slice (some ⟨g, 0, none⟩) gs.length cap) gs (Just g) ∧ GoodRows wr gs (Dsk.settle d.now (d.order.take k) d.good) R ∧ Kept (Por (Just m) (From w1.heap.size)) w1 wr
theorem DocSync.disj {w1 : World} {m : Nat} {R : Nat → Prop} (hR : ¬ R m) (hu : Under R w1.heap.size) : Disj R (Por (Just m) (From w1.heap.size)) := fun k hk h => by
  rcases h with h | h
  · exact hR (by rw [show k = m from h] at hk; exact hk)
  · have := hu k hk
    exact absurd (show w1.heap.size ≤ k from h) (by omega)
theorem doc_sync (w : World) (m : Nat) (d : Dsk) (R : Nat → Prop) (h : DocAt w m d R) (hops : d.ops < 9223372036854775807) (hgo : d.goes = true) :
    Calls Tryz.prog 88 #[.pointer (some ⟨m, 0, none⟩)] w fun e w' => e = .returned (.int .i64 0) ∧ (∃ R', DocAt w' m d.sync.1 R' ∧ Grows R w.heap.size R') ∧ Kept (Just m) w w' := by
  have HO0 := doc_op w m d R h hops
  have hwf := h.wf.sync
  have hsy : d.sync.1 = { d.begun with good := Dsk.settle d.begun.now d.begun.order d.begun.good, order := [] } := by simp [Dsk.sync, hgo]; rfl
  rw [hgo] at HO0
  rw [hsy] at hwf ⊢
  have HO := Lib.hid HO0
  have HWF := Lib.hid hwf
  clear h HO0 hwf hsy hgo
  generalize d.begun = d1 at *
  go_enter Tryz.func88, Tryz.ntmps88
  go_wp2_with fail
  refine HO.out.mono ?_
  rintro e w1 ⟨rfl, hD1, hk1⟩
  have HD1 := Lib.hid hD1
  have HK1 := Lib.hid hk1
  have hml := hD1.lt
  obtain ⟨gv, av, nv, gs, ns, left, hb, hR, h1, h2, h3, h4, h5, h6, h7, h8, hw, hu⟩ := hD1
  obtain ⟨ga, gc, rfl, -⟩ := h1.shape
  have ka := Kept.alloc Nob w1 (.cells #[] 50)
  have hb2 := (ka.block m hml (fun f => f)).trans hb
  have c0 := cell_at hb2 0 _ rfl
  have f0 := frozen_at hb2 0
  have HE := Lib.hid (Own.empty_new w1 50)
  have H1 := Lib.hid (h1.kept ka (fun _ _ f => f))
  have hgl : gs.length ≤ 8192 := by rw [h4.1]; exact hw.most
  have HG1 : Hid (∀ u ∈ gs, u.oneCell' = true) := by
    intro u hu
    obtain ⟨i, hi, rfl⟩ := List.getElem_of_mem hu
    have hx : d1.good[i]? = some (d1.good[i]'(by rw [← h4.1]; exact hi)) := by simp
    rcases h4.2 i _ _ (List.getElem?_eq_getElem hi) hx with ⟨hr, -⟩ | ⟨hr, -⟩
    · obtain ⟨a, c, hv, -⟩ := hr.shape
      rw [hv]; rfl
    · rw [hr]; rfl
  have HB := Lib.hid hb2
  have HKA := Lib.hid ka
  have HH2 := Lib.hid h2
  have HH3 := Lib.hid h3
  have HH4 := Lib.hid h4
  have HH5 := Lib.hid h5
  have HW := Lib.hid hw
  have HR := Lib.hid hR
  have HU := Lib.hid hu
  have HL := Lib.hid h6
  clear hb hb2 h1 h2 h3 h4 h5 hw hu hR h6 hk1 ka
  go_wp2_with (at_builtin; refine wpList_append_pg rfl _ _ 70 rfl tRows (.slice (some ⟨w1.heap.size, 0, none⟩) 0 0) _ [] gs _ R rfl rfl HE.out H1.out HG1.out (by simp; omega) ?_; intro b2 cap2 w2 ho2 hk2 _; have hb3 := (hk2.block m (by simp; omega) (by simp [Value.ownBlock]; omega)).trans HB.out; have c0 := cell_at hb3 0 _ rfl; have f0 := frozen_at hb3 0; have HB3 := Lib.hid hb3; have HO2 := Lib.hid ho2; have HK2 := Lib.hid hk2; clear hb3 ho2 hk2)
  have hpos : 1 ≤ gs.length := by rw [HH4.out.1]; exact HW.out.pos
  obtain ⟨g, rfl⟩ : ∃ g, b2 = some ⟨g, 0, none⟩ := by
    rcases HO2.out.shape with ⟨hx, hz⟩ | ⟨g, c', cur, hx, _⟩
    · simp at hz; rw [hz] at hpos; simp at hpos
    · simp at hx; exact ⟨g, hx.1⟩
  have hgg : w1.heap.size ≤ g := by
    rcases HO2.out.2 g (by simp [Value.ownBlock]) with h | h
    · simp [Value.ownBlock] at h; omega
    · simp at h; omega
  have HR0 : Hid (DocSync w1 m d1 R av nv left g cap2 0 (w2.setCell ⟨m, 0, none⟩ (.slice (some ⟨g, 0, none⟩) gs.length cap2))) := by
    have kk : Kept (Por (Just m) (From w1.heap.size)) w1 (w2.setCell ⟨m, 0, none⟩ (.slice (some ⟨g, 0, none⟩) gs.length cap2)) :=
      ((HKA.out.nob).trans (HK2.out) (fun k hk h => by simp [Value.ownBlock] at h; exact absurd h (by omega))).trans (kept1 w2 m 0 _) (fun k hk h => .inl h)
    refine ⟨gs, (heap_set w2 m 0 _ _ _ HB3.out).trans (by simp), ?_, ?_, kk⟩
    · have ho := HO2.out
      simp only [List.nil_append, List.length_nil, Nat.zero_add] at ho
      have ho' : Own w2 50 (.slice (some ⟨g, 0, none⟩) gs.length cap2) gs (Just g) := ⟨ho.1, fun x hx => by simp [Value.ownBlock] at hx; exact hx.symm⟩
      exact ho'.kept (kept1 w2 m 0 _) (fun k hk hj => by rw [show k = g from hk] at hj; exact absurd (show g = m from hj) (by omega))
    · exact HH4.out.kept kk (DocSync.disj HR.out HU.out)
  go_loopw [3] (fun i wr => ∃ k : Nat, k ≤ d1.order.length ∧ i = .int .i64 k ∧ DocSync w1 m d1 R av nv left g cap2 k wr) (fun i _ => d1.order.length - (intOf i).toNat)
  case atStart => exact ⟨0, Nat.zero_le _, rfl, HR0.out⟩
  case round =>
    clear HR0
    obtain ⟨k, hk, rfl, hS⟩ := hrel
    obtain ⟨gs2, hb4, ho4, hg4, hk4⟩ := hS
    obtain ⟨aa, ac, rfl, -⟩ := HH2.out.shape
    obtain ⟨na, nc, rfl, -⟩ := HH3.out.shape
    have hdj := DocSync.disj HR.out HU.out
    have hav := HH2.out.kept hk4 hdj
    have hnv := HH3.out.kept hk4 hdj
    have hwr := HH5.out.kept hk4 hdj
    simp only [List.length_map] at hav hb4
    have d0 := cell_at hb4 0 _ rfl
    have d1c := cell_at hb4 1 _ rfl
    have d2 := cell_at hb4 2 _ rfl
    have HB4 := Lib.hid hb4
    have HO4 := Lib.hid ho4
    have HG4 := Lib.hid hg4
    have HK4 := Lib.hid hk4
    have hol := HW.out.orderLen
    by_cases hlt : k < d1.order.length
    · obtain ⟨ba, oa, va, rfl, hva, hca, -⟩ := hav.cell (i := k) (by simpa using hlt)
      obtain ⟨bn, on, vn, rfl, hvn, hcn, -⟩ := hnv.cell (i := k) (by rw [hwr.1]; exact hlt)
      obtain ⟨a, ha⟩ : ∃ a : Nat, d1.order[k] = (a : Int) := ⟨d1.order[k].toNat, by have := (HW.out.order _ (List.getElem_mem hlt)).1; omega⟩
      have hal : a < d1.good.length := by have := HW.out.order _ (List.getElem_mem hlt); omega
      obtain rfl : va = .int .i64 a := by rw [List.getElem?_map, List.getElem?_eq_getElem hlt, ha] at hva; exact (Option.some.inj hva).symm
      have hgl2 : gs2.length = d1.good.length := by rw [hg4.1, Dsk.settle_length]
      have hrow := hwr.2 k vn a hvn (by rw [List.getElem?_eq_getElem hlt, ha])
      have e64 : (d1.now.getD (a : Int).toNat []).length = 64 := (Dsk.Sectors.getD HW.out.now (by rw [HW.out.len]; exact hal)).1
      obtain ⟨rp, rq, rfl, -⟩ := hrow.shape
      rw [e64] at hrow hcn
      clear e64
      have HRow := Lib.hid hrow
      have HA := Lib.hid ha
      have j1 : a < gs2.length := by omega
      have j2 : k < ns.length := by rw [hwr.1]; exact hlt
      obtain ⟨va2, hva2⟩ : ∃ v, gs2[a]? = some v := ⟨gs2[a], by simp [j1]⟩
      have e0 := ho4.cell a va2 hva2
      have e1 := ho4.frozen a
      clear hb4 ho4 hg4 hk4 hav hnv hwr hdj hva hvn hrow ha c0 f0
      go_wp2_with fail
      go_region
      have HN : Hid (DocSync w1 m d1 R (.slice (some ⟨ba, oa, none⟩) d1.order.length ac) (.slice (some ⟨bn, on, none⟩) ns.length nc) left g cap2 (k + 1) (wr.setCell ⟨g, a, none⟩ (.slice rp 64 rq)).drew) := by
        have hgm : w1.heap.size ≤ g := hgg
        have kk : Kept (Just g) wr (wr.setCell ⟨g, a, none⟩ (.slice rp 64 rq)).drew := (kept1 wr g a _).trans' (Kept.drew _ _)
        have k2 := HK4.out.trans kk (fun x hx hj => .inr (by rw [show x = g from hj]; exact hgm))
        refine ⟨gs2.set a (.slice rp 64 rq), ?_, ?_, ?_, k2⟩
        · rw [List.length_set]
          exact (kk.block m (Nat.lt_of_lt_of_le hml HK4.out.size) (fun hj => by have : m = g := hj; omega)).trans (by simpa using HB4.out)
        · rw [List.length_set]
          exact (HO4.out.set a _).drew
        · have et : d1.order.take (k + 1) = d1.order.take k ++ [(a : Int)] := by rw [← HA.out]; exact List.take_succ_eq_append_getElem hlt
          have hdg : Disj R (Just g) := fun x hx hj => by have := HU.out x hx; have e : x = g := hj; omega
          have hg2 := HG4.out
          rw [et, Dsk.settle_snoc]
          refine ⟨by rw [List.length_set, List.length_set]; exact hg2.1, fun i v x hv hx => ?_⟩
          by_cases hia : i = a
          · subst hia
            rw [List.getElem?_set_self j1] at hv
            rw [show ((i : Int).toNat) = i from rfl, List.getElem?_set_self (by rw [← hg2.1]; exact j1)] at hx
            cases hv; cases hx
            exact .inl ⟨HRow.out.kept kk hdg, (Dsk.Sectors.getD HW.out.now (by rw [HW.out.len]; exact hal)).1⟩
          · rw [List.getElem?_set_ne (Ne.symm hia)] at hv
            rw [show ((a : Int).toNat) = a from rfl, List.getElem?_set_ne (Ne.symm hia)] at hx
            exact (hg2.2 i v x hv hx).kept kk hdg
      go_wp2_with fail
      go_roundw
      case rel => exact ⟨k + 1, by omega, by go_num, by rw [List.length_map]; exact HN.out⟩
      case measure => simp [intOf]; omega
    · have hkk : k = d1.order.length := by omega
      have f1 := frozen_at hb4 1
      have f2 := frozen_at hb4 2
      have HHK := Lib.hid hkk
      have HHAV := Lib.hid hav
      clear hb4 ho4 hg4 hk4 hav hnv hwr hdj c0 f0 hkk
      go_wp2_with fail
      go_ret
      have e4 : Dsk.settle d1.now (d1.order.take k) d1.good = Dsk.settle d1.now d1.order d1.good := by rw [HHK.out, List.take_length]
      have hgg2 : w1.heap.size ≤ g := hgg
      have kf : Kept (Just m) wr ((wr.setCell ⟨m, 1, none⟩ (.slice none 0 0)).setCell ⟨m, 2, none⟩ (.slice none 0 0)) := kept2 wr m 1 2 _ _
      have hdm : ∀ x, Por R (fun j => w1.heap.size ≤ j ∧ j < wr.heap.size) x → ¬ Just m x := fun x hx hj => by
        rw [show x = m from hj] at hx
        rcases hx with hx | hx
        · exact HR.out hx
        · omega
      have hsz := HK4.out.size
      refine ⟨rfl, ⟨Por R (fun j => w1.heap.size ≤ j ∧ j < wr.heap.size), ⟨.slice (some ⟨g, 0, none⟩) gs2.length cap2, .slice none 0 0, .slice none 0 0, gs2, [], left, ?_, ?_, ?_, .inl ⟨rfl, none, 0, rfl, fun _ => rfl⟩, .inl ⟨rfl, none, 0, rfl, fun _ => rfl⟩, ?_, ⟨rfl, fun i v k hv => by simp at hv⟩, HL.out, h7, h8, HWF.out, ?_⟩, ?_⟩, ?_⟩
      · (with_reducible refine (heap2 wr m _ _ _ _ _ _ HB4.out).trans ?_); simp
      · exact fun hx => hdm m hx rfl
      · exact ((HO4.out.reads.mono fun x hx hj => .inr ⟨by rw [show x = g from hj]; exact hgg2, hx⟩).kept kf hdm)
      · rw [← e4]; exact (HG4.out.mono fun x _ hx => .inl hx).kept kf hdm
      · intro x hx
        have := kf.size
        rcases hx with hx | hx
        · have := HU.out x hx; omega
        · omega
      · intro x hx
        rcases hx with hx | hx
        · exact .inl hx
        · have := HK1.out.size; exact .inr (by omega)
      · exact (HK1.out.trans' ((HK4.out.mono fun x hx h => by
          rcases h with h | h
          · exact h
          · exact absurd (show w1.heap.size ≤ x from h) (by omega)).trans' kf))
end Go.Proofs.YthppgchmamonnaaGreatDoor
