/- The document's own disk: Sync. -/
import Derived.Test.YthjjckpgjfjokaaDoorPgDoc4
namespace Go.Proofs.YthjjckpgjfjokaaDoor
open Go.RowKit

theorem doc_sync_off (w : World) (m : Nat) (d : Dsk) (R : Nat → Prop) (h : DocAt w m d R) (hops : d.ops < 9223372036854775807) (hgo : d.goes = false) :
    Calls Tryd.prog 21 #[.pointer (some ⟨m, 0, none⟩)] w fun e w' => e = .returned (.int .i64 9) ∧ DocAt w' m d.begun R ∧ Kept (Just m) w w' := by
  have HO0 := doc_op w m d R h hops
  rw [hgo] at HO0
  have HO := Lib.hid HO0
  clear h HO0 hgo
  go_enter Tryd.func21, Tryd.ntmps21
  go_wp2_with (go_at_call 38; refine HO.out.mono ?_; rintro e w1 ⟨rfl, hD1, hk1⟩)
  go_ret
  exact ⟨rfl, hD1, hk1⟩

/-- inside Sync: k sectors are made durable, in a row of Sync's own at block g -/
def DocSync (w1 : World) (m : Nat) (d : Dsk) (R : Nat → Prop) (av nv : Value) (left : Int) (g cap : Nat) (k : Nat) (wr : World) : Prop :=
  ∃ gs, wr.heap[m]? = some (.cells #[.slice (some ⟨g, 0, none⟩) gs.length cap, av, nv, .int .i64 d.ops, .bool d.cut, .int .i64 left, .bool d.off] 74 (0, 0)) ∧
    Own wr 30 (.slice (some ⟨g, 0, none⟩) gs.length cap) gs (Just g) ∧ GoodRows wr gs (Dsk.settle d.now (d.order.take k) d.good) R ∧ Kept (Por (Just m) (From w1.heap.size)) w1 wr

theorem DocSync.disj {w1 : World} {m : Nat} {R : Nat → Prop} (hR : ¬ R m) (hu : Under R w1.heap.size) : Disj R (Por (Just m) (From w1.heap.size)) := fun k hk h => by
  rcases h with h | h
  · exact hR (by rw [show k = m from h] at hk; exact hk)
  · have := hu k hk
    exact absurd (show w1.heap.size ≤ k from h) (by omega)

theorem doc_sync (w : World) (m : Nat) (d : Dsk) (R : Nat → Prop) (h : DocAt w m d R) (hops : d.ops < 9223372036854775807) (hgo : d.goes = true) :
    Calls Tryd.prog 21 #[.pointer (some ⟨m, 0, none⟩)] w fun e w' => e = .returned (.int .i64 0) ∧ (∃ R', DocAt w' m d.sync.1 R' ∧ Grows R w.heap.size R') ∧ Kept (Just m) w w' := by
  have HO0 := doc_op w m d R h hops
  have hwf := h.wf.sync
  have hsy : d.sync.1 = { d.begun with good := Dsk.settle d.begun.now d.begun.order d.begun.good, order := [] } := by simp [Dsk.sync, hgo]; rfl
  rw [hgo] at HO0
  rw [hsy] at hwf ⊢
  have HO := Lib.hid HO0
  have HWF := Lib.hid hwf
  clear h HO0 hwf hsy hgo
  generalize d.begun = d1 at *
  go_enter Tryd.func21, Tryd.ntmps21
  go_wp2_with fail
  refine HO.out.mono ?_
  rintro e w1 ⟨rfl, hD1, hk1⟩
  have HD1 := Lib.hid hD1
  have HK1 := Lib.hid hk1
  have hml := hD1.lt
  obtain ⟨gv, av, nv, gs, ns, left, hb, hR, h1, h2, h3, h4, h5, h6, h7, h8, hw, hu⟩ := hD1
  obtain ⟨ga, gc, rfl, -⟩ := h1.shape
  have ka := Kept.alloc Nob w1 (.cells #[] 30)
  have hb2 := (ka.block m hml (fun f => f)).trans hb
  have c0 := cell_at hb2 0 _ rfl
  have f0 := frozen_at hb2 0
  have HE := Lib.hid (Own.empty_new w1 30)
  have H1 := Lib.hid (h1.kept ka (fun _ _ f => f))
  have hgl : gs.length ≤ 8192 := by rw [h4.1]; exact hw.most
  have HG1 : Hid (∀ u ∈ gs, u.oneCell' = true) := by
    intro u hu
    obtain ⟨i, hi, rfl⟩ := List.getElem_of_mem hu
    have hx : d1.good[i]? = some (d1.good[i]'(by rw [← h4.1]; exact hi)) := by simp
    rcases h4.2 i _ _ (List.getElem?_eq_getElem hi) hx with ⟨hr, -⟩ | ⟨hr, -⟩
    · obtain ⟨a, c, hv, -⟩ := hr.shape
      rw [hv]; rfl
    · rw [hr]; rfl
  have HB := Lib.hid hb2
  have HKA := Lib.hid ka
  have HH2 := Lib.hid h2
  have HH3 := Lib.hid h3
  have HH4 := Lib.hid h4
  have HH5 := Lib.hid h5
  have HW := Lib.hid hw
  have HR := Lib.hid hR
  have HU := Lib.hid hu
  have HL := Lib.hid h6
  clear hb hb2 h1 h2 h3 h4 h5 hw hu hR h6 hk1 ka
  go_wp2_with (at_builtin; refine wpList_append_pg rfl _ _ 59 rfl tRows (.slice (some ⟨w1.heap.size, 0, none⟩) 0 0) _ [] gs _ R rfl rfl HE.out H1.out HG1.out (by simp; omega) ?_; intro b2 cap2 w2 ho2 hk2 _; have hb3 := (hk2.block m (by simp; omega) (by simp [Value.ownBlock]; omega)).trans HB.out; have c0 := cell_at hb3 0 _ rfl; have f0 := frozen_at hb3 0; have HB3 := Lib.hid hb3; have HO2 := Lib.hid ho2; have HK2 := Lib.hid hk2; clear hb3 ho2 hk2)
  have hpos : 1 ≤ gs.length := by rw [HH4.out.1]; exact HW.out.pos
  obtain ⟨g, rfl⟩ : ∃ g, b2 = some ⟨g, 0, none⟩ := by
    rcases HO2.out.shape with ⟨hx, hz⟩ | ⟨g, c', cur, hx, _⟩
    · simp at hz; rw [hz] at hpos; simp at hpos
    · simp at hx; exact ⟨g, hx.1⟩
  have hgg : w1.heap.size ≤ g := by
    rcases HO2.out.2 g (by simp [Value.ownBlock]) with h | h
    · simp [Value.ownBlock] at h; omega
    · simp at h; omega
  have HR0 : Hid (DocSync w1 m d1 R av nv left g cap2 0 (w2.setCell ⟨m, 0, none⟩ (.slice (some ⟨g, 0, none⟩) gs.length cap2))) := by
    have kk : Kept (Por (Just m) (From w1.heap.size)) w1 (w2.setCell ⟨m, 0, none⟩ (.slice (some ⟨g, 0, none⟩) gs.length cap2)) :=
      ((HKA.out.nob).trans (HK2.out) (fun k hk h => by simp [Value.ownBlock] at h; exact absurd h (by omega))).trans (kept1 w2 m 0 _) (fun k hk h => .inl h)
    refine ⟨gs, (heap_set w2 m 0 _ _ _ HB3.out).trans (by simp), ?_, ?_, kk⟩
    · have ho := HO2.out
      simp only [List.nil_append, List.length_nil, Nat.zero_add] at ho
      have ho' : Own w2 30 (.slice (some ⟨g, 0, none⟩) gs.length cap2) gs (Just g) := ⟨ho.1, fun x hx => by simp [Value.ownBlock] at hx; exact hx.symm⟩
      exact ho'.kept (kept1 w2 m 0 _) (fun k hk hj => by rw [show k = g from hk] at hj; exact absurd (show g = m from hj) (by omega))
    · exact HH4.out.kept kk (DocSync.disj HR.out HU.out)
  go_loopw [3] (fun i wr => ∃ k : Nat, k ≤ d1.order.length ∧ i = .int .i64 k ∧ DocSync w1 m d1 R av nv left g cap2 k wr) (fun i _ => d1.order.length - (intOf i).toNat)
  case atStart => exact ⟨0, Nat.zero_le _, rfl, HR0.out⟩
  case round =>
    clear HR0
    obtain ⟨k, hk, rfl, hS⟩ := hrel
    obtain ⟨gs2, hb4, ho4, hg4, hk4⟩ := hS
    obtain ⟨aa, ac, rfl, -⟩ := HH2.out.shape
    obtain ⟨na, nc, rfl, -⟩ := HH3.out.shape
    have hdj := DocSync.disj HR.out HU.out
    have hav := HH2.out.kept hk4 hdj
    have hnv := HH3.out.kept hk4 hdj
    have hwr := HH5.out.kept hk4 hdj
    simp only [List.length_map] at hav hb4
    have d0 := cell_at hb4 0 _ rfl
    have d1c := cell_at hb4 1 _ rfl
    have d2 := cell_at hb4 2 _ rfl
    have HB4 := Lib.hid hb4
    have HO4 := Lib.hid ho4
    have HG4 := Lib.hid hg4
    have HK4 := Lib.hid hk4
    have hol := HW.out.orderLen
    by_cases hlt : k < d1.order.length
    · obtain ⟨ba, oa, va, rfl, hva, hca, -⟩ := hav.cell (i := k) (by simpa using hlt)
      obtain ⟨bn, on, vn, rfl, hvn, hcn, -⟩ := hnv.cell (i := k) (by rw [hwr.1]; exact hlt)
      obtain ⟨a, ha⟩ : ∃ a : Nat, d1.order[k] = (a : Int) := ⟨d1.order[k].toNat, by have := (HW.out.order _ (List.getElem_mem hlt)).1; omega⟩
      have hal : a < d1.good.length := by have := HW.out.order _ (List.getElem_mem hlt); omega
      obtain rfl : va = .int .i64 a := by rw [List.getElem?_map, List.getElem?_eq_getElem hlt, ha] at hva; exact (Option.some.inj hva).symm
      have hgl2 : gs2.length = d1.good.length := by rw [hg4.1, Dsk.settle_length]
      have hrow := hwr.2 k vn a hvn (by rw [List.getElem?_eq_getElem hlt, ha])
      have e64 : (d1.now.getD (a : Int).toNat []).length = 64 := (Dsk.Sectors.getD HW.out.now (by rw [HW.out.len]; exact hal)).1
      obtain ⟨rp, rq, rfl, -⟩ := hrow.shape
      rw [e64] at hrow hcn
      clear e64
      have HRow := Lib.hid hrow
      have HA := Lib.hid ha
      have j1 : a < gs2.length := by omega
      have j2 : k < ns.length := by rw [hwr.1]; exact hlt
      obtain ⟨va2, hva2⟩ : ∃ v, gs2[a]? = some v := ⟨gs2[a], by simp [j1]⟩
      have e0 := ho4.cell a va2 hva2
      have e1 := ho4.frozen a
      clear hb4 ho4 hg4 hk4 hav hnv hwr hdj hva hvn hrow ha c0 f0
      go_wp2_with fail
      go_region
      have HN : Hid (DocSync w1 m d1 R (.slice (some ⟨ba, oa, none⟩) d1.order.length ac) (.slice (some ⟨bn, on, none⟩) ns.length nc) left g cap2 (k + 1) (wr.setCell ⟨g, a, none⟩ (.slice rp 64 rq)).drew) := by
        have hgm : w1.heap.size ≤ g := hgg
        have kk : Kept (Just g) wr (wr.setCell ⟨g, a, none⟩ (.slice rp 64 rq)).drew := (kept1 wr g a _).trans' (Kept.drew _ _)
        have k2 := HK4.out.trans kk (fun x hx hj => .inr (by rw [show x = g from hj]; exact hgm))
        refine ⟨gs2.set a (.slice rp 64 rq), ?_, ?_, ?_, k2⟩
        · rw [List.length_set]
          exact (kk.block m (Nat.lt_of_lt_of_le hml HK4.out.size) (fun hj => by have : m = g := hj; omega)).trans (by simpa using HB4.out)
        · rw [List.length_set]
          exact (HO4.out.set a _).drew
        · have et : d1.order.take (k + 1) = d1.order.take k ++ [(a : Int)] := by rw [← HA.out]; exact List.take_succ_eq_append_getElem hlt
          have hdg : Disj R (Just g) := fun x hx hj => by have := HU.out x hx; have e : x = g := hj; omega
          have hg2 := HG4.out
          rw [et, Dsk.settle_snoc]
          refine ⟨by rw [List.length_set, List.length_set]; exact hg2.1, fun i v x hv hx => ?_⟩
          by_cases hia : i = a
          · subst hia
            rw [List.getElem?_set_self j1] at hv
            rw [show ((i : Int).toNat) = i from rfl, List.getElem?_set_self (by rw [← hg2.1]; exact j1)] at hx
            cases hv; cases hx
            exact .inl ⟨HRow.out.kept kk hdg, (Dsk.Sectors.getD HW.out.now (by rw [HW.out.len]; exact hal)).1⟩
          · rw [List.getElem?_set_ne (Ne.symm hia)] at hv
            rw [show ((a : Int).toNat) = a from rfl, List.getElem?_set_ne (Ne.symm hia)] at hx
            exact (hg2.2 i v x hv hx).kept kk hdg
      go_wp2_with fail
      go_roundw
      case rel => exact ⟨k + 1, by omega, by go_num, by rw [List.length_map]; exact HN.out⟩
      case measure => simp [intOf]; omega
    · have hkk : k = d1.order.length := by omega
      have f1 := frozen_at hb4 1
      have f2 := frozen_at hb4 2
      have HHK := Lib.hid hkk
      have HHAV := Lib.hid hav
      clear hb4 ho4 hg4 hk4 hav hnv hwr hdj c0 f0 hkk
      go_wp2_with fail
      go_ret
      have e4 : Dsk.settle d1.now (d1.order.take k) d1.good = Dsk.settle d1.now d1.order d1.good := by rw [HHK.out, List.take_length]
      have hgg2 : w1.heap.size ≤ g := hgg
      have kf : Kept (Just m) wr ((wr.setCell ⟨m, 1, none⟩ (.slice none 0 0)).setCell ⟨m, 2, none⟩ (.slice none 0 0)) := kept2 wr m 1 2 _ _
      have hdm : ∀ x, Por R (fun j => w1.heap.size ≤ j ∧ j < wr.heap.size) x → ¬ Just m x := fun x hx hj => by
        rw [show x = m from hj] at hx
        rcases hx with hx | hx
        · exact HR.out hx
        · omega
      have hsz := HK4.out.size
      refine ⟨rfl, ⟨Por R (fun j => w1.heap.size ≤ j ∧ j < wr.heap.size), ⟨.slice (some ⟨g, 0, none⟩) gs2.length cap2, .slice none 0 0, .slice none 0 0, gs2, [], left, ?_, ?_, ?_, .inl ⟨rfl, none, 0, rfl, fun _ => rfl⟩, .inl ⟨rfl, none, 0, rfl, fun _ => rfl⟩, ?_, ⟨rfl, fun i v k hv => by simp at hv⟩, HL.out, h7, h8, HWF.out, ?_⟩, ?_⟩, ?_⟩
      · (with_reducible refine (heap2 wr m _ _ _ _ _ _ HB4.out).trans ?_); simp
      · exact fun hx => hdm m hx rfl
      · exact ((HO4.out.reads.mono fun x hx hj => .inr ⟨by rw [show x = g from hj]; exact hgg2, hx⟩).kept kf hdm)
      · rw [← e4]; exact (HG4.out.mono fun x _ hx => .inl hx).kept kf hdm
      · intro x hx
        have := kf.size
        rcases hx with hx | hx
        · have := HU.out x hx; omega
        · omega
      · intro x hx
        rcases hx with hx | hx
        · exact .inl hx
        · have := HK1.out.size; exact .inr (by omega)
      · exact (HK1.out.trans' ((HK4.out.mono fun x hx h => by
          rcases h with h | h
          · exact h
          · exact absurd (show w1.heap.size ≤ x from h) (by omega)).trans' kf))
end Go.Proofs.YthjjckpgjfjokaaDoor
