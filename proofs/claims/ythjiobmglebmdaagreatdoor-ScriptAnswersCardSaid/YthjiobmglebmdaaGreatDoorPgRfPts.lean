/- The document's own rows of points, read. -/
import Derived.Test.YthjiobmglebmdaaGreatDoorPgRfPoint
namespace Go.Proofs.YthjiobmglebmdaaGreatDoor
open Go.RowKit
open Go.Proofs.YthjiobmglebmdaaGreatDoor.Geo Go.Proofs.YthjiobmglebmdaaGreatDoor.Txt

set_option maxHeartbeats 4000000 in
theorem ref_points (w : World) (v : Value) (ws : List (List UInt8)) (F : Nat → Prop) (h : Reads w v (ws.map strV) F) (hl : ws.length ≤ 1000000) (hs : ∀ x ∈ ws, x.length ≤ 1000000) :
    Calls Tryz.prog 46 #[v] w fun e w' => ∃ u b l, e = .returned (.tuple #[u, .bool b]) ∧ PtsAt w' u l (From w.heap.size) ∧ l.length ≤ ws.length ∧ PtsRes ws l b ∧ Kept Nob w w' := by
  obtain ⟨a, cap, rfl, -⟩ := h.shape
  have HP := Lib.hid h
  have HS := Lib.hid hs
  have hlen : (ws.map strV).length = ws.length := by simp
  rw [hlen]
  clear h hs hlen
  go_enter Tryz.func46, Tryz.ntmps46
  go_wp2_with fail
  go_loopw [4, 5] (fun o i wr => ∃ (k : Nat) (l : List Pt), k ≤ ws.length ∧ i = .int .i64 k ∧ l.length = k ∧ (∃ g c, o = .slice g k c) ∧ OwnK 2 wr 42 o k (ptCells l) (From w.heap.size) ∧ (∀ ps : List Pt, (∀ p ∈ ps, ok p = true) → ws.take k = ps.map ptTxt → l = ps) ∧ Kept Nob w wr) (fun _ i _ => ws.length - (intOf i).toNat)
  case atStart => exact ⟨0, [], Nat.zero_le _, rfl, rfl, ⟨_, _, rfl⟩, OwnK.nil 2 _ _ _, (fun ps _ h => by simp at h; rw [h]), Kept.refl _ _⟩
  case round =>
    obtain ⟨k, l, hk, rfl, hll, ⟨g, c, rfl⟩, hown, hre, hw⟩ := hrel
    have HOw := Lib.hid hown
    have HRe := Lib.hid hre
    have HW := Lib.hid hw
    have HLl := Lib.hid hll
    clear hown hre hw hll
    by_cases hlt : k < ws.length
    · have hx : (ws.map strV)[k]? = some (strV ws[k]) := by rw [List.getElem?_map, List.getElem?_eq_getElem hlt]; rfl
      obtain ⟨b, o, ha, hb, -, c0⟩ := (HP.out.kept HW.out (fun _ _ f => f)).at' hx
      obtain rfl := ha
      have HT : Hid (ws.take (k + 1) = ws.take k ++ [ws[k]]) := Lib.hid (List.take_succ_eq_append_getElem hlt)
      have HPo := fun (wx : World) (kx : Kept Nob w wx) => Lib.hid (ref_readPoint wx ws[k] (HS.out _ (List.getElem_mem hlt)))
      have HG : Hid (ws[k]? = some ws[k]) := Lib.hid (List.getElem?_eq_getElem hlt)
      clear hx
      generalize ws[k] = x at *
      obtain ⟨xv, hxv⟩ : ∃ u, (⟨x.toArray⟩ : ByteArray) = u := ⟨_, rfl⟩
      unfold strV at HPo c0
      rw [hxv] at HPo c0
      clear hxv
      go_wp2_with fail
      refine (HPo _ HW.out).out.mono ?_
      rintro e w1 ⟨p, b1, rfl, hp, hk1⟩
      obtain ⟨px, py⟩ := p
      have HPt := Lib.hid hp
      have HW1 := Lib.hid (HW.out.then hk1)
      have HOw1 := Lib.hid (HOw.out.kept hk1 (fun _ _ f => f))
      clear hk1 hp
      simp only
      cases b1 with
      | false =>
        have HR : Hid (PtsRes ws [] false) := Lib.hid (fun ps hps he => by
          have hg := HG.out
          rw [he, List.getElem?_map] at hg
          cases hq : ps[k]? with
          | none => rw [hq] at hg; simp at hg
          | some q =>
            rw [hq] at hg
            simp only [Option.map_some, Option.some.injEq] at hg
            have := (HPt.out q (hps q (List.mem_of_getElem? hq)) hg.symm).2
            cases this)
        go_wp2_with fail
        go_ret2
        exact ⟨_, _, [], rfl, ⟨rfl, .inl ⟨rfl, none, 0, rfl, fun _ => rfl⟩⟩, Nat.zero_le _, HR.out, HW1.out.then (Kept.alloc _ _ _)⟩
      | true =>
        go_wp2_with (at_builtin; refine wpList_append1K rfl _ _ 24 rfl tPts (.slice g k c) k (ptCells l) [.int .i64 px, .int .i64 py] (From w.heap.size) _ 0 1 rfl rfl (HOw1.out.kept ((Kept.alloc Nob w1 _).then (Kept.alloc _ _ _)) (fun _ _ f => f)) rfl (new_pt2 w1 _ px py _) (Nat.le_refl _) (one2 px py) (by omega) ?_; intro g2 cap2 w4 ho4 hk4; have HN := Lib.hid (OwnK.step (HOw1.out.kept ((Kept.alloc Nob w1 _).then (Kept.alloc Nob _ _)) (fun _ _ f => f)) (HW1.out.then ((Kept.alloc Nob w1 _).then (Kept.alloc Nob _ _))) ho4 hk4); clear ho4 hk4)
        go_roundw
        case rel =>
          refine ⟨k + 1, l ++ [(px, py)], by omega, by go_num, by simp [HLl.out], ⟨_, _, rfl⟩, by rw [ptCells_snoc]; exact HN.out.1, fun ps hps he => ?_, HN.out.2⟩
          rw [HT.out] at he
          obtain ⟨qs, q, rfl, e1, e2⟩ := map_snoc he
          rw [HRe.out qs (fun p hp => hps p (by simp [hp])) e1, (HPt.out q (hps q (by simp)) e2).1]
        case measure => simp [intOf]; omega
    · obtain rfl : k = ws.length := by omega
      have HR : Hid (PtsRes ws l true) := Lib.hid (fun ps hps he => ⟨HRe.out ps hps (by rw [List.take_length]; exact he), rfl⟩)
      have HPl : Hid (PtsAt wr (.slice g ws.length c) l (From w.heap.size)) := Lib.hid (by unfold PtsAt; rw [HLl.out]; exact HOw.out.reads)
      go_wp2_with fail
      go_ret2
      exact ⟨_, _, l, rfl, HPl.out, Nat.le_of_eq HLl.out, HR.out, HW.out⟩
end Go.Proofs.YthjiobmglebmdaaGreatDoor
