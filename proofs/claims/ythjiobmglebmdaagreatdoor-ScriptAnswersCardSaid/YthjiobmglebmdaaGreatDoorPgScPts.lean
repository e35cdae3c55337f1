/- script: points of words; the error of what is no text. -/
import Derived.Test.YthjiobmglebmdaaGreatDoorPgScRead
import Derived.Test.YthjiobmglebmdaaGreatDoorPgScBackM
import Derived.Test.YthjiobmglebmdaaGreatDoorPgReads
namespace Go.Proofs.YthjiobmglebmdaaGreatDoor
open Go.RowKit
open Go.Proofs.YthjiobmglebmdaaGreatDoor.Geo Go.Proofs.YthjiobmglebmdaaGreatDoor.Txt

theorem tPts : PlainK Tryz.prog 2 24 42 (.agg #[.int .i64 0, .int .i64 0]) 16 := PlainK.of Tryz.underlying24 (by kernel_rfl) rfl (by omega)
theorem ptCells_snoc : ∀ (l : List Pt) (p : Pt), ptCells (l ++ [p]) = ptCells l ++ [.int .i64 p.1, .int .i64 p.2]
  | [], _ => rfl
  | q :: l, p => by simp [ptCells, ptCells_snoc l p]
theorem new_cells2 (w : World) (cs : Array Value) (e : TypeId) (us : List Value) (h : cs = us.toArray) : ∀ i u, us[i]? = some u → (w.alloc (.cells cs e)).cell? ⟨w.heap.size, 0 + i, none⟩ = some u := by
  subst h
  intro i u hu
  rw [Nat.zero_add]
  exact cell_at (heap_alloc_new w _) i u (by simpa using hu)
theorem Reads.at' {w : World} {a : Option Addr} {n c : Nat} {xs : List Value} {F : Nat → Prop} (h : Reads w (.slice a n c) xs F) {i : Nat} {v : Value} (hi : xs[i]? = some v) :
    ∃ b o, a = some ⟨b, o, none⟩ ∧ b < w.heap.size ∧ F b ∧ w.cell? ⟨b, o + i, none⟩ = some v := by
  rcases h with ⟨hx, _⟩ | ⟨b, o, c', hv, _, hb, hF, hc⟩
  · simp [hx] at hi
  · simp only [Value.slice.injEq] at hv
    exact ⟨b, o, hv.1, hb, hF, hc i v hi⟩
theorem Kept.new2 (w : World) (o : Obj) (x y : Value) : Kept Nob w (((w.alloc o).setCell ⟨w.heap.size, 0, none⟩ x).setCell ⟨w.heap.size, 1, none⟩ y) :=
  (Kept.alloc Nob w o).from (Nat.le_refl _) ((Kept.setCell (F := From w.heap.size) _ ⟨w.heap.size, 0, none⟩ x (Nat.le_refl _)).trans' (Kept.setCell (F := From w.heap.size) _ ⟨w.heap.size, 1, none⟩ y (Nat.le_refl _)))
theorem OwnK.step {K : Nat} {w w1 w2 : World} {e : TypeId} {v v2 : Value} {n m : Nat} {xs ys : List Value} (h : OwnK K w1 e v n xs (From w.heap.size)) (hk : Kept Nob w w1) (h2 : OwnK K w2 e v2 m ys (fun k => v.ownBlock = some k ∨ w1.heap.size ≤ k))
    (hk2 : Kept (fun k => v.ownBlock = some k) w1 w2) : OwnK K w2 e v2 m ys (From w.heap.size) ∧ Kept Nob w w2 :=
  ⟨h2.mono fun k _ hj => by
    rcases hj with hj | hj
    · exact h.2 k hj
    · exact Nat.le_trans hk.size hj, hk.from (Nat.le_refl _) (hk2.mono fun k _ hj => h.2 k hj)⟩
theorem new_pt2 (w : World) (A : Obj) (x y : Int) (e : TypeId) : ∀ i u, [Value.int .i64 x, Value.int .i64 y][i]? = some u → ((w.alloc A).alloc (.cells #[.int .i64 x, .int .i64 y] e)).cell? ⟨w.heap.size + 1, 0 + i, none⟩ = some u := by
  have := new_cells2 (w.alloc A) #[.int .i64 x, .int .i64 y] e [.int .i64 x, .int .i64 y] rfl
  rw [show (w.alloc A).heap.size = w.heap.size + 1 from by simp] at this
  exact this
theorem one2 (x y : Int) : ∀ u ∈ [Value.int .i64 x, Value.int .i64 y], u.oneCell' = true := by
  intro u hu
  simp only [List.mem_cons, List.not_mem_nil, or_false] at hu
  rcases hu with rfl | rfl <;> rfl
/-- how words are read as points -/
def PtsRes (ws : List (List UInt8)) (l : List Pt) (b : Bool) : Prop := ∀ ps : List Pt, (∀ p ∈ ps, ok p = true) → ws = ps.map ptTxt → l = ps ∧ b = true
theorem map_snoc {ws : List (List UInt8)} {x : List UInt8} {ps : List Pt} (h : ws ++ [x] = ps.map ptTxt) : ∃ qs q, ps = qs ++ [q] ∧ ws = qs.map ptTxt ∧ x = ptTxt q := by
  obtain ⟨l1, l2, rfl, h1, h2⟩ := List.map_eq_append_iff.1 h.symm
  obtain ⟨q, rfl, rfl⟩ : ∃ q, l2 = [q] ∧ ptTxt q = x := by
    cases l2 with
    | nil => simp at h2
    | cons q r =>
      simp only [List.map_cons, List.cons.injEq, List.map_eq_nil_iff] at h2
      exact ⟨q, by rw [h2.2], h2.1⟩
  exact ⟨l1, q, rfl, h1.symm, rfl⟩
set_option maxHeartbeats 4000000 in
theorem script_points (w : World) (v : Value) (ws : List (List UInt8)) (F : Nat → Prop) (h : Reads w v (ws.map strV) F) (hl : ws.length ≤ 1000000) (hs : ∀ x ∈ ws, x.length ≤ 1000000) (hE : Env w) :
    Calls Tryz.prog 43 #[v] w fun e w' => ∃ u b l, e = .returned (.tuple #[u, .bool b]) ∧ PtsAt w' u l (From w.heap.size) ∧ l.length ≤ ws.length ∧ PtsRes ws l b ∧ Kept Nob w w' := by
  obtain ⟨a, cap, rfl, -⟩ := h.shape
  have HP := Lib.hid h
  have HE := Lib.hid hE
  have HS := Lib.hid hs
  have hlen : (ws.map strV).length = ws.length := by simp
  rw [hlen]
  clear h hE hs hlen
  go_enter Tryz.func43, Tryz.ntmps43
  go_wp2_with fail
  go_loopw [2, 10] (fun o i wr => ∃ (k : Nat) (l : List Pt), k ≤ ws.length ∧ i = .int .i64 k ∧ l.length = k ∧ (∃ g c, o = .slice g k c) ∧ OwnK 2 wr 42 o k (ptCells l) (From w.heap.size) ∧ (∀ ps : List Pt, (∀ p ∈ ps, ok p = true) → ws.take k = ps.map ptTxt → l = ps) ∧ Kept Nob w wr) (fun _ i _ => ws.length - (intOf i).toNat)
  case atStart => exact ⟨0, [], Nat.zero_le _, rfl, rfl, ⟨_, _, rfl⟩, OwnK.nil 2 _ _ _, (fun ps _ h => by simp at h; rw [h]), Kept.refl _ _⟩
  case round =>
    obtain ⟨k, l, hk, rfl, hll, ⟨g, c, rfl⟩, hown, hre, hw⟩ := hrel
    have HOw := Lib.hid hown
    have HRe := Lib.hid hre
    have HW := Lib.hid hw
    have HLl := Lib.hid hll
    clear hown hre hw hll
    by_cases hlt : k < ws.length
    · have hx : (ws.map strV)[k]? = some (strV ws[k]) := by rw [List.getElem?_map, List.getElem?_eq_getElem hlt]; rfl
      obtain ⟨b, o, ha, hb, -, c0⟩ := (HP.out.kept HW.out (fun _ _ f => f)).at' hx
      obtain rfl := ha
      have HT : Hid (ws.take (k + 1) = ws.take k ++ [ws[k]]) := Lib.hid (List.take_succ_eq_append_getElem hlt)
      have HPo := fun (wx : World) (kx : Kept Nob w wx) => Lib.hid (script_Point wx ws[k] (HS.out _ (List.getElem_mem hlt)) (HE.out.kept kx))
      have HG : Hid (ws[k]? = some ws[k]) := Lib.hid (List.getElem?_eq_getElem hlt)
      clear hx
      generalize ws[k] = x at *
      obtain ⟨xv, hxv⟩ : ∃ u, (⟨x.toArray⟩ : ByteArray) = u := ⟨_, rfl⟩
      unfold strV at HPo c0
      rw [hxv] at HPo c0
      clear hxv
      go_wp2_with fail
      refine (HPo _ HW.out).out.mono ?_
      rintro e w1 ⟨p, b1, rfl, hp, hk1⟩
      obtain ⟨px, py⟩ := p
      have HPt := Lib.hid hp
      have HW1 := Lib.hid (HW.out.then hk1)
      have HOw1 := Lib.hid (HOw.out.kept hk1 (fun _ _ f => f))
      clear hk1 hp
      simp only
      cases b1 with
      | false =>
        have HR : Hid (PtsRes ws [] false) := Lib.hid (fun ps hps he => by
          have hg := HG.out
          rw [he, List.getElem?_map] at hg
          cases hq : ps[k]? with
          | none => rw [hq] at hg; simp at hg
          | some q =>
            rw [hq] at hg
            simp only [Option.map_some, Option.some.injEq] at hg
            have := (HPt.out q (hps q (List.mem_of_getElem? hq)) hg.symm).2
            cases this)
        go_wp2_with fail
        go_ret2
        exact ⟨_, _, [], rfl, ⟨rfl, .inl ⟨rfl, none, 0, rfl, fun _ => rfl⟩⟩, Nat.zero_le _, HR.out, HW1.out.then (Kept.alloc _ _ _)⟩
      | true =>
        go_wp2_with (at_builtin; refine wpList_append1K rfl _ _ 24 rfl tPts (.slice g k c) k (ptCells l) [.int .i64 px, .int .i64 py] (From w.heap.size) _ 0 1 rfl rfl (HOw1.out.kept ((Kept.alloc Nob w1 _).then (Kept.alloc _ _ _)) (fun _ _ f => f)) rfl (new_pt2 w1 _ px py _) (Nat.le_refl _) (one2 px py) (by omega) ?_; intro g2 cap2 w4 ho4 hk4; have HN := Lib.hid (OwnK.step (HOw1.out.kept ((Kept.alloc Nob w1 _).then (Kept.alloc Nob _ _)) (fun _ _ f => f)) (HW1.out.then ((Kept.alloc Nob w1 _).then (Kept.alloc Nob _ _))) ho4 hk4); clear ho4 hk4)
        go_roundw
        case rel =>
          refine ⟨k + 1, l ++ [(px, py)], by omega, by go_num, by simp [HLl.out], ⟨_, _, rfl⟩, by rw [ptCells_snoc]; exact HN.out.1, fun ps hps he => ?_, HN.out.2⟩
          rw [HT.out] at he
          obtain ⟨qs, q, rfl, e1, e2⟩ := map_snoc he
          rw [HRe.out qs (fun p hp => hps p (by simp [hp])) e1, (HPt.out q (hps q (by simp)) e2).1]
        case measure => simp [intOf]; omega
    · obtain rfl : k = ws.length := by omega
      have HR : Hid (PtsRes ws l true) := Lib.hid (fun ps hps he => ⟨HRe.out ps hps (by rw [List.take_length]; exact he), rfl⟩)
      have HPl : Hid (PtsAt wr (.slice g ws.length c) l (From w.heap.size)) := Lib.hid (by unfold PtsAt; rw [HLl.out]; exact HOw.out.reads)
      go_wp2_with fail
      go_ret2
      exact ⟨_, _, l, rfl, HPl.out, Nat.le_of_eq HLl.out, HR.out, HW.out⟩
/-- the error of what is no text -/
theorem script_bad (w : World) : Calls Tryz.prog 40 #[] w fun e w' => ∃ u, e = .returned u ∧ FaultAt w' u ⟨#[115, 99, 114, 105, 112, 116]⟩ 0 10 (From w.heap.size) ∧ Kept Nob w w' := by
  have HF := fun wx => Lib.hid (fault_new wx ⟨#[115, 99, 114, 105, 112, 116]⟩ 0 10)
  go_enter Tryz.func40, Tryz.ntmps40
  go_wp2_with fail
  refine (HF _).out.mono ?_
  rintro e w1 ⟨g, rfl, hf, hk⟩
  have HFt := Lib.hid hf
  have HK := Lib.hid hk
  clear hf hk
  go_wp2_with fail
  go_ret
  exact ⟨_, rfl, HFt.out, HK.out⟩
end Go.Proofs.YthjiobmglebmdaaGreatDoor
