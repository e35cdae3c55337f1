/- The document's own disk: Crash. Disk: Ops. -/
import Derived.Test.YthppgchmamonnaaGreatDoorPq02
import Derived.Test.YthppgchmamonnaaGreatDoorPq07
import Derived.Test.YthppgchmamonnaaGreatDoorPq09
namespace Go.Proofs.YthppgchmamonnaaGreatDoor
open Go.RowKit
theorem bites_other (now : List (List Value)) (keep : List Bool) (torn : Int) (i : Nat) : ∀ (l : List Int) (k : Nat) (good : List (List Value)), (∀ a ∈ l, a.toNat ≠ i) → (Dsk.bites now keep torn l k good).getD i [] = good.getD i [] := by
  intro l
  induction l with
  | nil => intro k good _; rfl
  | cons a r ih =>
    intro k good h
    rw [Dsk.bites, ih _ _ (fun j hj => h j (by simp [hj]))]
    have ha := h a (by simp)
    unfold Dsk.bite
    split
    · rw [List.getD_eq_getElem?_getD, List.getElem?_set_ne ha, ← List.getD_eq_getElem?_getD]
    · split
      · rw [List.getD_eq_getElem?_getD, List.getElem?_set_ne ha, ← List.getD_eq_getElem?_getD]
      · rfl
def CrashR (w : World) (R : Nat → Prop) (g bo : Nat) : Nat → Prop := fun j => R j ∨ (w.heap.size ≤ j ∧ j ≠ g ∧ j ≠ bo)
def DocCrash (w : World) (R : Nat → Prop) (d : Dsk) (keep : List Bool) (torn : Int) (g cap bo : Nat) (k : Nat) (wr : World) : Prop :=
  ∃ gs, wr.heap[bo]? = some (.cells #[.slice (some ⟨g, 0, none⟩) d.good.length cap, .slice none 0 0, .slice none 0 0, .int .i64 0, .bool false, .int .i64 0, .bool false] 119 (0, 0)) ∧ gs.length = d.good.length ∧
    Own wr 50 (.slice (some ⟨g, 0, none⟩) d.good.length cap) gs (Just g) ∧ GoodRows wr gs (Dsk.bites d.now keep torn (d.order.take k) 0 d.good) (CrashR w R g bo) ∧ Kept Nob w wr
def RetDocCrash (w : World) (d : Dsk) (R : Nat → Prop) (en : Ending) (w' : World) : Prop :=
  ∃ bo R', en = .returned (.pointer (some ⟨bo, 0, none⟩)) ∧ DocAt w' bo d R' ∧ Grows R w.heap.size R' ∧ w.heap.size ≤ bo ∧ Kept Nob w w'
theorem DocCrash.step {w wr w4 : World} {R : Nat → Prop} {d : Dsk} {keep : List Bool} {torn : Int} {g cap bo k a : Nat} {gs : List Value} (hk : k < d.order.length) (ha : d.order[k] = (a : Int)) (hal : a < d.good.length)
    (hb : wr.heap[bo]? = some (.cells #[.slice (some ⟨g, 0, none⟩) d.good.length cap, .slice none 0 0, .slice none 0 0, .int .i64 0, .bool false, .int .i64 0, .bool false] 119 (0, 0))) (hgl : gs.length = d.good.length)
    (ho : Own wr 50 (.slice (some ⟨g, 0, none⟩) d.good.length cap) gs (Just g)) (hg : GoodRows wr gs (Dsk.bites d.now keep torn (d.order.take k) 0 d.good) (CrashR w R g bo)) (hkw : Kept Nob w wr) (hgb : g ≠ bo) (hwg : w.heap.size ≤ g) (hu : Under R w.heap.size)
    (hk4 : Kept Nob wr w4) {v : Value} {x : List Value} (hr : Reads w4 v x (CrashR w R g bo)) (hx : x.length = 64) (hN : Dsk.bites d.now keep torn (d.order.take (k + 1)) 0 d.good = (Dsk.bites d.now keep torn (d.order.take k) 0 d.good).set a x) :
    DocCrash w R d keep torn g cap bo (k + 1) (w4.setCell ⟨g, a, none⟩ v) := by
  have ks := kept1 w4 g a v
  have hd : Disj (CrashR w R g bo) (Just g) := fun j hj h => by
    rw [show j = g from h] at hj
    rcases hj with hj | hj
    · have := hu g hj; omega
    · exact hj.2.1 rfl
  have hbl : bo < w4.heap.size := Nat.lt_of_lt_of_le (Array.getElem?_eq_some_iff.1 hb).1 hk4.size
  refine ⟨gs.set a v, ?_, by rw [List.length_set]; exact hgl, ?_, ?_, (hkw.then hk4).from (Nat.le_refl _) (ks.mono fun j _ h => by show _ ≤ _; rw [show j = g from h]; exact hwg)⟩
  · exact (ks.block bo hbl (fun h => hgb (show bo = g from h).symm)).trans ((hk4.block bo (Array.getElem?_eq_some_iff.1 hb).1 (fun f => f)).trans hb)
  · exact (ho.kept hk4 (fun _ _ f => f)).set a v
  · rw [hN]
    refine ⟨by rw [List.length_set, List.length_set]; exact hg.1, fun i u y hv hy => ?_⟩
    by_cases hia : i = a
    · subst hia
      rw [List.getElem?_set_self (by omega)] at hv
      rw [List.getElem?_set_self (by rw [Dsk.bites_length]; exact hal)] at hy
      cases hv; cases hy
      exact .inl ⟨hr.kept ks hd, hx⟩
    · rw [List.getElem?_set_ne (Ne.symm hia)] at hv hy
      exact ((hg.2 i u y hv hy).kept hk4 (fun _ _ f => f)).kept ks hd
set_option maxRecDepth 100000 in
set_option maxHeartbeats 4000000 in
theorem doc_crash (w : World) (m : Nat) (d : Dsk) (R : Nat → Prop) (h : DocAt w m d R) (kv : Value) (keep : List Bool) (G : Nat → Prop) (hkeep : Reads w kv (keep.map Value.bool) G) (hkl : keep.length < 1000000000) (torn : Int) :
    Calls Tryz.prog 60 #[.pointer (some ⟨m, 0, none⟩), kv, .int .i64 torn] w (RetDocCrash w (d.crash keep torn) R) := by
  have HKp := Lib.hid hkeep
  obtain ⟨ka, kc, rfl, -⟩ := hkeep.shape
  simp only [List.length_map]
  have hml := h.lt
  obtain ⟨gv, av, nv, gs, ns, left, hb, hR, h1, h2, h3, h4, h5, -, -, -, hw, hu⟩ := h
  obtain ⟨ga, gc, rfl, -⟩ := h1.shape
  obtain ⟨aa, ac, rfl, -⟩ := h2.shape
  obtain ⟨na, nc, rfl, -⟩ := h3.shape
  have hgl : gs.length = d.good.length := h4.1
  have hnl : ns.length = d.order.length := h5.1
  have hm := hw.most
  have hpos := hw.pos
  simp only [List.length_map] at hb
  rw [hgl, hnl] at hb
  rw [List.length_map] at h2
  rw [hgl] at h1
  rw [hnl] at h3
  have c0 := cell_at hb 0 _ rfl
  have HG1 : Hid (∀ u ∈ gs, u.oneCell' = true) := by
    intro u hu
    obtain ⟨i, hi, rfl⟩ := List.getElem_of_mem hu
    have hx : d.good[i]? = some (d.good[i]'(by rw [← hgl]; exact hi)) := by simp
    rcases h4.2 i _ _ (List.getElem?_eq_getElem hi) hx with ⟨hr, -⟩ | ⟨hr, -⟩
    · obtain ⟨a, c, hv, -⟩ := hr.shape
      rw [hv]; rfl
    · rw [hr]; rfl
  have HE := Lib.hid (Own.empty_new w 50)
  have HB := Lib.hid hb
  have H1 := Lib.hid h1
  have H1' := Lib.hid (h1.alloc (.cells #[] 50))
  have H2 := Lib.hid h2
  have H3 := Lib.hid h3
  have H4 := Lib.hid h4
  have H5 := Lib.hid h5
  have HW := Lib.hid hw
  have HR := Lib.hid hR
  have HU := Lib.hid hu
  have HGL := Lib.hid hgl
  have HNL := Lib.hid hnl
  have hol := hw.orderLen
  have ca0 := (Kept.alloc Nob w (.cells #[] 50)).cell (p := ⟨m, 0, none⟩) hml (fun f => f) |>.trans c0
  clear hb h1 h2 h3 h4 h5 hw hu hR hkeep hgl hnl c0
  go_enter Tryz.func60, Tryz.ntmps60
  go_wp2_with (at_builtin; refine wpList_append_pg rfl _ _ 70 rfl tRows (.slice (some ⟨w.heap.size, 0, none⟩) 0 0) _ [] gs _ R rfl rfl HE.out H1'.out HG1.out (by have := HGL.out; simp; omega) ?_; intro b2 cap2 w2 ho2 hk2 _; obtain ⟨q1, q2⟩ := more_own (W := w) rfl (l' := d.good.length) (ys := gs) ho2 hk2 (by simp [Value.ownBlock]; omega) (by rw [← HGL.out]; simp) (by simp); have HO2 := Lib.hid q1; have HK2 := Lib.hid q2; clear ho2 hk2 q1 q2)
  simp only [HGL.out]
  obtain ⟨g, rfl, hgg⟩ := own_fresh HO2.out (n := w.heap.size) (fun k h => h) trivial (by rw [HGL.out]; omega)
  have hg2 : g < w2.heap.size := HO2.out.blockLt (g := g) rfl
  have HR0 : Hid (DocCrash w R d keep torn g cap2 w2.heap.size 0 (w2.alloc (.cells #[.slice (some ⟨g, 0, none⟩) d.good.length cap2, .slice none 0 0, .slice none 0 0, .int .i64 0, .bool false, .int .i64 0, .bool false] 119))) := by
    have ka := Kept.alloc Nob w2 (.cells #[.slice (some ⟨g, 0, none⟩) d.good.length cap2, .slice none 0 0, .slice none 0 0, .int .i64 0, .bool false, .int .i64 0, .bool false] 119)
    have kk := HK2.out.then ka
    exact ⟨gs, heap_alloc_new w2 _, HGL.out, (own_just HO2.out rfl rfl).kept ka (fun _ _ f => f), (H4.out.kept kk (fun _ _ f => f)).mono (fun _ _ h => .inl h), kk⟩
  have hgb : g ≠ w2.heap.size := by omega
  have hbw : w.heap.size ≤ w2.heap.size := HK2.out.size
  have hgw : w.heap.size ≤ g := hgg
  clear ca0 HE H1' HG1 hgg HO2 HK2
  generalize w2.heap.size = bo at *
  go_loopw [8] (fun i wr => ∃ k : Nat, k ≤ d.order.length ∧ i = .int .i64 k ∧ DocCrash w R d keep torn g cap2 bo k wr) (fun i _ => d.order.length - (intOf i).toNat)
  case atStart => exact ⟨0, Nat.zero_le _, rfl, HR0.out⟩
  case round =>
    clear HR0
    obtain ⟨k, hk, rfl, hC⟩ := hrel
    have hkw : Kept Nob w wr := by obtain ⟨_, _, _, _, _, h⟩ := hC; exact h
    have hbr := (hkw.block m hml (fun f => f)).trans HB.out
    have d0 := cell_at hbr 0 _ rfl
    have d1 := cell_at hbr 1 _ rfl
    have d2 := cell_at hbr 2 _ rfl
    have HC := Lib.hid hC
    have HKW := Lib.hid hkw
    clear hbr
    by_cases hlt : k < d.order.length
    · have hav := H2.out.kept hkw (fun _ _ f => f)
      have hnv := H3.out.kept hkw (fun _ _ f => f)
      have hgv := H1.out.kept hkw (fun _ _ f => f)
      obtain ⟨ba, oa, va, rfl, hva, hca, -⟩ := hav.cell (i := k) (by simpa using hlt)
      obtain ⟨bn, on, vn, rfl, hvn, hcn, -⟩ := hnv.cell (i := k) (by rw [HNL.out]; exact hlt)
      obtain ⟨a, ha⟩ : ∃ a : Nat, d.order[k] = (a : Int) := ⟨d.order[k].toNat, by have := (HW.out.order _ (List.getElem_mem hlt)).1; omega⟩
      have hal : a < d.good.length := by have := HW.out.order _ (List.getElem_mem hlt); omega
      obtain rfl : va = .int .i64 a := by rw [List.getElem?_map, List.getElem?_eq_getElem hlt, ha] at hva; exact (Option.some.inj hva).symm
      obtain ⟨bg, og, vg, rfl, hvg, hcg, -⟩ := hgv.cell (i := a) (by rw [HGL.out]; exact hal)
      have hrow := (H5.out.kept hkw (fun _ _ f => f)).2 k vn a hvn (by rw [List.getElem?_eq_getElem hlt, ha])
      have hN : (d.now.getD a []).length = 64 ∧ ∀ u ∈ d.now.getD a [], IsByte u := Dsk.Sectors.getD HW.out.now (by rw [HW.out.len]; exact hal)
      have hGd : (d.good.getD a []).length = 64 ∧ ∀ u ∈ d.good.getD a [], IsByte u := Dsk.Sectors.getD HW.out.good hal
      rw [show ((a : Int).toNat) = a from rfl] at hrow
      obtain ⟨rp, rq, rfl, -⟩ := hrow.shape
      obtain ⟨rb, ro, rfl, -, hrq, -, -⟩ := hrow.some' (by rw [hN.1]; omega)
      rw [hN.1] at hrow hcn hrq
      have hgr := (H4.out.kept hkw (fun _ _ f => f)).2 a vg (d.good.getD a []) hvg (by rw [List.getD_eq_getElem?_getD, List.getElem?_eq_getElem hal]; rfl)
      obtain ⟨gs2, hb2, hgl2, ho2, hg2', -⟩ := hC
      have b0 := cell_at hb2 0 _ rfl
      obtain ⟨ve, hve⟩ : ∃ v, gs2[a]? = some v := ⟨_, List.getElem?_eq_getElem (by rw [hgl2]; exact hal)⟩
      have e0 := ho2.cell a ve hve
      have e1 := ho2.frozen a
      have HB2 := Lib.hid hb2
      have HGL2 := Lib.hid hgl2
      have HO2 := Lib.hid ho2
      have HG2 := Lib.hid hg2'
      have HRow := Lib.hid hrow
      have HGr := Lib.hid hgr
      have HN := Lib.hid hN
      have HGd := Lib.hid hGd
      have HA := Lib.hid ha
      have HBx := Lib.hid (bites_next d keep torn k a hlt ha)
      have HST := fun w4 v x q1 q2 q3 q4 => Lib.hid (DocCrash.step (w := w) (R := R) (w4 := w4) (v := v) (x := x) hlt ha hal hb2 hgl2 ho2 hg2' hkw hgb hgw HU.out q1 q2 q3 q4)
      have HSTT := Lib.hid HST
      have hmr : m < wr.heap.size := cell_lt d2
      have hbr2 : bn < wr.heap.size := cell_lt hcn
      have hmg : m ≠ g := by omega
      have hbgg : bg ≠ g := by
        obtain ⟨b', o', e', -, -, hb', -⟩ := H1.out.some' (by rw [HGL.out]; omega)
        simp only [Option.some.injEq, Addr.mk.injEq] at e'
        omega
      have hbl : bo < wr.heap.size := (Array.getElem?_eq_some_iff.1 hb2).1
      have hgl3 : g < wr.heap.size := ho2.blockLt (g := g) rfl
      have HOG : Hid ((Dsk.bites d.now keep torn (d.order.take k) 0 d.good).getD a [] = d.good.getD a []) := by
        refine bites_other _ _ _ _ _ _ _ fun q hq he => ?_
        obtain ⟨j, hj, rfl⟩ := List.getElem_of_mem hq
        rw [List.getElem_take] at he
        have hjk : j < k := by simp at hj; omega
        have h0 := (HW.out.order _ (List.getElem_mem (by omega : j < d.order.length))).1
        have : j = k := (List.getElem?_inj (by omega : j < d.order.length) HW.out.once).1 (by rw [List.getElem?_eq_getElem (by omega), List.getElem?_eq_getElem hlt, ha]; congr 1; omega)
        omega
      clear hav hnv hgv hva hvn hvg hrow hgr hb2 hgl2 ho2 hg2' hN hGd ha hkw HST hve
      by_cases ht : (k : Int) = torn
      · have htb : ((k : Int) == torn) = true := by simpa using ht
        obtain ⟨x5, hx5⟩ : ∃ x, x = (d.now.getD a []).take 32 := ⟨_, rfl⟩
        obtain ⟨y6, hy6⟩ : ∃ x, x = (d.good.getD a []).drop 32 := ⟨_, rfl⟩
        have HEQ : Hid (Dsk.bites d.now keep torn (d.order.take (k + 1)) 0 d.good = (Dsk.bites d.now keep torn (d.order.take k) 0 d.good).set a (x5 ++ y6)) := by
          show _ = _
          rw [HBx.out, Dsk.bite, if_pos ht, HOG.out, hx5, hy6]
        have hck : (32 : Int) ≤ (rq : Int) := by omega
        have hxl : x5.length = 32 := by have := HN.out.1; rw [hx5]; simp only [List.length_take]; omega
        have hyl : y6.length = 32 := by have := HGd.out.1; rw [hy6]; simp only [List.length_drop]; omega
        have HT : Hid (Reads (wr.alloc (.cells #[] 5)) (.slice (some ⟨rb, ro, none⟩) 32 rq) x5 R) := by
          rw [hx5]; exact (HRow.out.take 32 (by have := HN.out.1; omega) (by have := HN.out.1; omega)).alloc (.cells #[] 5)
        have HE := Lib.hid (Own.empty_new wr 5)
        have HT1 : Hid (∀ u ∈ x5, u.oneCell' = true) := fun u hu => (HN.out.2 u (List.mem_of_mem_take (hx5 ▸ hu))).one
        have HT6 : Hid (∀ u ∈ y6, u.oneCell' = true) := fun u hu => (HGd.out.2 u (List.mem_of_mem_drop (hy6 ▸ hu))).one
        have HX5 := Lib.hid hx5
        have HY6 := Lib.hid hy6
        clear ht hx5 hy6
        go_wp2_with (at_builtin; refine wpList_append_pg rfl _ _ 50 rfl tBytes (.slice (some ⟨wr.heap.size, 0, none⟩) 0 0) (.slice (some ⟨rb, ro, none⟩) 32 rq) [] x5 _ _ rfl rfl HE.out HT.out HT1.out (by simp only [List.length_nil]; omega) ?_; intro b5 cap5 w5 ho5 hk5 _; obtain ⟨q1, q2⟩ := more_own (W := wr) rfl (l' := 32) (ys := x5) ho5 hk5 (by simp [Value.ownBlock]; omega) (by rw [hxl]; rfl) (by simp); have HO5 := Lib.hid q1; have HK5 := Lib.hid q2; clear ho5 hk5 q1 q2)
        have HFull := Lib.hid (doc_full w5.drew _ _ _ ((HGr.out.kept HK5.out (fun _ _ f => f)).kept (Kept.drew Nob w5) (fun _ _ f => f)))
        have a0 := HK5.out.cell (p := ⟨bo, 0, none⟩) hbl (fun f => f) |>.trans b0
        have a1 := HK5.out.cell (p := ⟨m, 0, none⟩) hmr (fun f => f) |>.trans d0
        have a2 := HK5.out.cell (p := ⟨bg, og + a, none⟩) (cell_lt hcg) (fun f => f) |>.trans hcg
        have i0 : (0 : Int) ≤ (a : Int) := Int.natCast_nonneg _
        have i1 : (a : Int) < (d.good.length : Int) := by omega
        go_region_held3 (fun w' => w'.cell? ⟨bo, 0, none⟩ = some (.slice (some ⟨g, 0, none⟩) d.good.length cap2) ∧ w'.cell? ⟨m, 0, none⟩ = some (.slice (some ⟨bg, og, none⟩) d.good.length gc) ∧ w'.cell? ⟨bg, og + a, none⟩ = some vg) (first | (go_keep; done) | ((try dsimp only); (refine ⟨?_, ?_, ?_⟩) <;> first | (rw [setCell_far (Ne.symm hgb)]; assumption) | (rw [setCell_far hmg]; assumption) | (rw [setCell_far hbgg]; assumption) | (go_keep; done)))
          ((first
            | (refine step_append_pg rfl _ _ 50 rfl tBytes (.slice b5 32 cap5) (.slice (some ⟨b6, o6 + 32, none⟩) 32 (c6 - 32)) x5 y6 (From wr.heap.size) (Por R (From w5.drew.heap.size)) rfl rfl (HO5.out.drew.kept HK6.out (fun _ _ f => f)) HR6.out HT6.out (by omega) ?_; intro b7 cap7 w7 ho7 hk7;
               have k67 : Kept Nob wr w7 := (((HK5.out.then (Kept.drew Nob w5)).then HK6.out).from (Nat.le_refl _) (hk7.mono fun j _ hj => HO5.out.2 j hj));
               have q0 := (k67.cell (p := ⟨bo, 0, none⟩) hbl (fun f => f)).trans b0; have q1 := (k67.cell (p := ⟨m, 0, none⟩) hmr (fun f => f)).trans d0; have q2 := (k67.cell (p := ⟨bg, og + a, none⟩) (cell_lt hcg) (fun f => f)).trans hcg;
               have q3 := (k67.cell (p := ⟨g, a, none⟩) hgl3 (fun f => f)).trans e0; have q4 := (k67.frozen (p := ⟨g, a, none⟩) hgl3 (fun f => f)).trans e1;
               have HO7 := Lib.hid ho7; have HK7 := Lib.hid k67; clear ho7 hk7 k67)
            | (go_at_call 98; refine HFull.out.mono ?_; rintro e w6 ⟨bb, c6, rfl, hr6, hk6⟩; obtain ⟨b6, o6, rfl, -, hc6, -, -⟩ := hr6.some' (by rw [HGd.out.1]; omega);
               rw [HGd.out.1] at hc6; have hr6' := hr6.dropped 32 (by rw [HGd.out.1]; omega); rw [← HY6.out] at hr6'; have j6 : (32 : Int) ≤ (c6 : Int) := (by omega); have j7 : ¬ c6 = 32 := (by omega);
               have q0 := (hk6.cell (p := ⟨bo, 0, none⟩) (cell_lt a0) (fun f => f)).trans a0; have q1 := (hk6.cell (p := ⟨m, 0, none⟩) (cell_lt a1) (fun f => f)).trans a1; have q2 := (hk6.cell (p := ⟨bg, og + a, none⟩) (cell_lt a2) (fun f => f)).trans a2;
               have HR6 := Lib.hid hr6'; have HK6 := Lib.hid hk6; clear hr6 hr6' hk6)))
        go_wp2
        have HQ := HSTT.out w7 (.slice b7 64 cap7) (x5 ++ y6) (HK7.out) (by
          have h7 := HO7.out.reads
          rw [hxl, hyl] at h7
          refine h7.mono fun j hj hh => .inr ?_
          have h8 : wr.heap.size ≤ j := by
            rcases hh with hh | hh
            · exact HO5.out.2 j hh
            · have := HK5.out.size; have := HK6.out.size; simp at this; omega
          have := HKW.out.size
          exact ⟨by omega, by omega, by omega⟩) (by rw [List.length_append, hxl, hyl]) HEQ.out
        go_roundw
        case rel => exact ⟨k + 1, by omega, by go_num, HQ.out⟩
        case measure => simp [intOf]; omega
      · have htb : ((k : Int) == torn) = false := by simpa using ht
        have hne : keep = [] ∨ (keep ≠ [] ∧ ∃ gq oq, ka = some ⟨gq, oq, none⟩ ∧ k % keep.length < keep.length ∧ wr.cell? ⟨gq, oq + k % keep.length, none⟩ = some (.bool (keep.getD (k % keep.length) false))) := by
          by_cases he : keep = []
          · exact .inl he
          · refine .inr ⟨he, ?_⟩
            have hpos : 0 < keep.length := List.length_pos_iff.2 he
            have hml := Nat.mod_lt k hpos
            rcases HKp.out.kept HKW.out (fun _ _ f => f) with ⟨hz, _⟩ | ⟨gq, oq, cq, hx, _, _, _, hc⟩
            · simp at hz; exact absurd hz he
            · simp only [Value.slice.injEq] at hx
              refine ⟨gq, oq, hx.1, hml, hc _ _ ?_⟩
              rw [List.getElem?_map, List.getElem?_eq_getElem hml, List.getD_eq_getElem?_getD, List.getElem?_eq_getElem hml]
              rfl
        have HBS : keep = [] ∨ keep.getD (k % keep.length) false = false → Hid (DocCrash w R d keep torn g cap2 bo (k + 1) wr) := fun h => by
          show DocCrash w R d keep torn g cap2 bo (k + 1) wr
          obtain ⟨gs3, t1, t2, t3, t4, t5⟩ := HC.out
          refine ⟨gs3, t1, t2, t3, ?_, t5⟩
          rw [HBx.out, Dsk.bite, if_neg ht, if_neg (fun hh => by rcases h with h | h; exact hh.1 h; rw [h] at hh; exact absurd hh.2 (by simp))]
          exact t4
        have HBT : keep ≠ [] → keep.getD (k % keep.length) false = true → Hid (Dsk.bites d.now keep torn (d.order.take (k + 1)) 0 d.good = (Dsk.bites d.now keep torn (d.order.take k) 0 d.good).set a (d.now.getD a [])) := fun h1 h2 => by
          show _ = _
          rw [HBx.out, Dsk.bite, if_neg ht, if_pos ⟨h1, h2⟩]
        clear ht
        rcases hne with he | ⟨he, gq, oq, rfl, hml2, cq⟩
        · have hl0 : decide (0 < keep.length) = false := by simp [he]
          have HE := HBS (.inl he)
          clear HBS HBT he
          go_wp2_with fail
          go_roundw
          case rel => exact ⟨k + 1, by omega, by go_num, HE.out⟩
          case measure => simp [intOf]; omega
        · have hl0 : decide (0 < keep.length) = true := by simp; exact List.length_pos_iff.2 he
          have hlp : 0 < keep.length := List.length_pos_iff.2 he
          obtain ⟨km, hm⟩ : ∃ km, k % keep.length = km := ⟨_, rfl⟩
          have hmod : (k : Int) % (keep.length : Int) = (km : Int) := by rw [← hm]; rfl
          rw [hm] at hml2 cq HBS HBT
          clear hm
          cases hv : keep.getD km false
          · have HE := HBS (.inr hv)
            rw [hv] at cq
            clear HBS HBT he hv
            go_wp2_with fail
            go_roundw
            case rel => exact ⟨k + 1, by omega, by go_num, HE.out⟩
            case measure => simp [intOf]; omega
          · have HEQ := HBT he hv
            rw [hv] at cq
            clear HBS HBT he hv
            have i0 : (0 : Int) ≤ (a : Int) := Int.natCast_nonneg _
            have i1 : (a : Int) < (d.good.length : Int) := by omega
            go_wp2_with fail
            go_region
            have HQ := HSTT.out wr.drew (.slice (some ⟨rb, ro, none⟩) 64 rq) (d.now.getD a []) (Kept.drew Nob wr) (HRow.out.drew.mono fun j _ hj => .inl hj) HN.out.1 HEQ.out
            go_wp2_with fail
            go_roundw
            case rel => exact ⟨k + 1, by omega, by go_num, HQ.out⟩
            case measure => simp [intOf]; omega
    · have hkk : k = d.order.length := by omega
      have HKK := Lib.hid hkk
      clear hkk d0 d2
      go_wp2_with fail
      go_ret
      obtain ⟨gs3, t1, t2, t3, t4, t5⟩ := HC.out
      rw [HKK.out, List.take_length] at t4
      refine ⟨bo, fun j => R j ∨ (w.heap.size ≤ j ∧ j ≠ bo ∧ j < wr.heap.size), rfl, ⟨.slice (some ⟨g, 0, none⟩) d.good.length cap2, .slice none 0 0, .slice none 0 0, gs3, [], 0, t1, ?_, ?_, .inl ⟨rfl, none, 0, rfl, fun _ => rfl⟩, .inl ⟨rfl, none, 0, rfl, fun _ => rfl⟩, ?_, ⟨rfl, fun i v q hv => by simp at hv⟩, rfl, by omega, by omega, HW.out.crash keep torn, ?_⟩, ?_, hbw, t5⟩
      · intro h
        rcases h with h | h
        · have := HU.out bo h; omega
        · exact h.2.1 rfl
      · have hr := t3.reads
        rw [← t2] at hr ⊢
        exact hr.mono fun j hj h => .inr ⟨by rw [show j = g from h]; exact hgw, by rw [show j = g from h]; exact hgb, hj⟩
      · exact t4.mono fun j hj h => by
          rcases h with h | h
          · exact .inl h
          · exact .inr ⟨h.1, h.2.2, hj⟩
      · intro j hj
        rcases hj with hj | hj
        · have := HU.out j hj; have := t5.size; omega
        · exact hj.2.2
      · intro j hj
        rcases hj with hj | hj
        · exact .inl hj
        · exact .inr hj.1
theorem disk_ops' (w : World) (b : Nat) (d : Dsk) (F : Nat → Prop) (h : DiskAt w b d F) :
    Calls Tryz.prog 19 #[.pointer (some ⟨b, 0, none⟩)] w fun e w' => e = .returned (.int .i64 d.ops) ∧ w = w' := by
  have H := Lib.hid (disk_gone w b d F h)
  obtain ⟨gv, nv, ov, hb, hF, hg, hn, ho, ha, hw, hu⟩ := h
  have c3 := cell_at hb 3 _ rfl
  clear hb hg hn ho ha hw hu
  go_enter Tryz.func19, Tryz.ntmps19
  go_wp2_with (go_at_call 40; refine H.out.mono ?_; rintro e w' ⟨rfl, rfl⟩)
  go_ret
  exact ⟨rfl, rfl⟩
end Go.Proofs.YthppgchmamonnaaGreatDoor
