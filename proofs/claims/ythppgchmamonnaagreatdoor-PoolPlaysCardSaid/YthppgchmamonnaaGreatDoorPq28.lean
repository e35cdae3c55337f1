/- The document's own page: Insert that is done. -/
import Derived.Test.YthppgchmamonnaaGreatDoorPq27
namespace Go.Proofs.YthppgchmamonnaaGreatDoor
open Go.RowKit
theorem Own.addr {w : World} {e : TypeId} {a : Option Addr} {n c : Nat} {xs : List Value} {F : Nat → Prop} (h : Own w e (.slice a n c) xs F) (hp : 0 < n) : ∃ g, a = some ⟨g, 0, none⟩ ∧ F g := by
  rcases h.shape with ⟨hv, _⟩ | ⟨g, cap, cur, hv, hF, _⟩
  · simp only [Value.slice.injEq] at hv; omega
  · simp only [Value.slice.injEq] at hv
    exact ⟨g, hv.1, hF⟩
theorem OwnRows.shape {w : World} {er e : TypeId} {v : Value} {xss : List (List Value)} {F : Nat → Prop} (h : OwnRows w er e v xss F) : ∃ a c vs, v = .slice a xss.length c ∧ Own w er v vs F ∧ RowsAt w e vs xss F := by
  obtain ⟨vs, h1, h2⟩ := h
  obtain ⟨a, c, hv, -⟩ := h1.reads.shape
  rw [h2.len] at hv
  exact ⟨a, c, vs, hv, h1, h2⟩
theorem dRows_set (ss : List (Option (List Int))) (j : Nat) (b : List Int) : (dRows ss).set j (b.map (Value.int .u8)) = dRows (ss.set j (some b)) := by
  unfold dRows
  rw [List.map_set]; rfl
theorem dHas_set (ss : List (Option (List Int))) (j : Nat) (b : List Int) : (dHas ss).set j (.bool true) = dHas (ss.set j (some b)) := by
  unfold dHas
  rw [List.map_set]; rfl
theorem DPgW.fillStep {w w5 : World} {pg gh gb nh nb ch cb j l c5 : Nat} {b5 : Option Addr} {kind id : Int} {rows : List (List Value)} {has x : List Value} {R : Nat → Prop} {o : Obj}
    (hb : w.heap[pg]? = some (.cells #[.int .i64 kind, .int .i64 id, .slice (some ⟨gb, 0, none⟩) nb cb, .slice (some ⟨gh, 0, none⟩) nh ch] 106 (0, 0)))
    (hr : OwnRows w 50 5 (.slice (some ⟨gb, 0, none⟩) nb cb) rows R) (hh : Own w 4 (.slice (some ⟨gh, 0, none⟩) nh ch) has R) (hn : ¬ R pg) (hj : j < rows.length)
    (ho : Own w5 5 (.slice b5 l c5) x (fun k => (Value.slice (some ⟨w.heap.size, 0, none⟩) 0 0).ownBlock = some k ∨ ((w.setCell ⟨gh, j, none⟩ (.bool true)).alloc o).drew.heap.size ≤ k))
    (hk : Kept (fun k => (Value.slice (some ⟨w.heap.size, 0, none⟩) 0 0).ownBlock = some k) ((w.setCell ⟨gh, j, none⟩ (.bool true)).alloc o).drew w5) :
    w5.cell? ⟨pg, 2, none⟩ = some (.slice (some ⟨gb, 0, none⟩) nb cb) ∧ (∃ q, w5.cell? ⟨gb, j, none⟩ = some q) ∧ w5.frozen? ⟨gb, j, none⟩ = false ∧
    DPgW (w5.setCell ⟨gb, j, none⟩ (.slice b5 l c5)) pg kind id (rows.set j x) (has.set j (.bool true)) (fun k => R k ∨ (w.heap.size ≤ k ∧ k < (w5.setCell ⟨gb, j, none⟩ (.slice b5 l c5)).heap.size)) ∧ Kept R w (w5.setCell ⟨gb, j, none⟩ (.slice b5 l c5)) := by
  have s1 := set_size w ⟨gh, j, none⟩ (.bool true)
  have kk : Kept Nob (w.setCell ⟨gh, j, none⟩ (.bool true)) w5 := ((Kept.alloc Nob _ o).trans' (Kept.drew Nob _)).trans hk (fun y hy e => by simp [Value.ownBlock] at e; omega)
  have ho' : Own w5 5 (.slice b5 l c5) x (From w.heap.size) := ho.mono fun y _ e => by
    rcases e with e | e
    · simp [Value.ownBlock] at e; show _ ≤ _; omega
    · have e2 : ((w.setCell ⟨gh, j, none⟩ (.bool true)).alloc o).heap.size ≤ y := e
      simp at e2; show _ ≤ _; omega
  have hRh : R gh := hh.2 gh rfl
  have hne : pg ≠ gh := fun e => hn (by rw [e]; exact hRh)
  have hpl : pg < w.heap.size := (Array.getElem?_eq_some_iff.1 hb).1
  have hb1 : w5.heap[pg]? = _ := (kk.block pg (by rw [s1]; exact hpl) (fun f => f)).trans (((kept1 w gh j (.bool true)).block pg hpl hne).trans hb)
  have hr1 : OwnRows (w.setCell ⟨gh, j, none⟩ (.bool true)) 50 5 (.slice (some ⟨gb, 0, none⟩) nb cb) rows R := hr.keptT (kept1 w gh j (.bool true)) fun k hj => by
    obtain ⟨cur, hc⟩ := hh.blockIs (g := gh) rfl
    rw [show k = gh from hj]
    exact ⟨cur, _, _, hc, by decide, by decide⟩
  obtain ⟨q, q1, q2, -⟩ := (hr1.kept kk (fun _ _ f => f)).cell hj
  exact ⟨cell_at hb1 2 _ rfl, ⟨q, q1⟩, q2, DPgW.fill hb hr hh hn kk ho'⟩
def RetIns (w : World) (pg : Nat) (p : PgM) (R : Nat → Prop) (k : Nat) (b : List Int) (en : Ending) (w' : World) : Prop :=
  en = .returned (.tuple #[.int .i64 k, .int .i64 0]) ∧ (∃ R', DPgAt w' pg { p with ss := withOf p.ss k b } R' ∧ Grows R w.heap.size R') ∧ Kept (PgF pg R) w w'
set_option maxRecDepth 100000 in
set_option maxHeartbeats 4000000 in
theorem dpage_insert (w : World) (pg : Nat) (p : PgM) (R : Nat → Prop) (h : DPgAt w pg p R) (hz : Sized p.ss) (v : Value) (b : List Int) (G : Nat → Prop) (hb : Reads w v (b.map (Value.int .u8)) G) (hG : ∀ x, G x → ¬ R x ∧ x ≠ pg) (h1 : b.length ≤ 400)
    (h2 : freeIdx p.ss < 60) (h3 : usedOf (withOf p.ss (freeIdx p.ss) b) ≤ 512) :
    Calls Tryz.prog 57 #[.pointer (some ⟨pg, 0, none⟩), v] w (RetIns w pg p R (freeIdx p.ss) b) := by
  have HU := Lib.hid (dpage_used w pg p R h (by have := hz.1; omega) (fun s hs => by have := hz.2 s hs; omega))
  rw [usedOf_with] at h3
  have hul := usedOf_le hz
  have hq := freeIdx_le p.ss
  obtain ⟨va, vc, rfl, -⟩ := hb.shape
  rw [List.length_map] at hb ⊢
  obtain ⟨kind, id, ss⟩ := p
  obtain ⟨bv, hv, hb0, hr0, hh0, hn0⟩ := h
  have HN0 := Lib.hid hn0
  obtain ⟨ha, hc, rfl, -⟩ := hh0.reads.shape
  obtain ⟨ba, bc, vs, rfl, hv1, hrw⟩ := hr0.shape
  rw [dHas_length] at hb0 hh0
  rw [dRows_length] at hb0 hr0 hv1
  have c3 : w.cell? ⟨pg, 3, none⟩ = some (.slice ha ss.length hc) := cell_at hb0 3 _ rfl
  have HH := Lib.hid hh0.reads
  have HO := Lib.hid hh0
  have HR := Lib.hid hr0
  have HB := Lib.hid hb0
  have HRb := Lib.hid hb
  have HG := Lib.hid hG
  have HOn : Hid (∀ u ∈ b.map (Value.int .u8), u.oneCell' = true) := Lib.hid fun u hu => by obtain ⟨y, _, rfl⟩ := List.mem_map.1 hu; rfl
  have HF := Lib.hid (fun (k : Nat) (hk : k < ss.length) => freeIdx_of (ss := ss) hk)
  have HFe := Lib.hid (freeIdx_end (ss := ss))
  have hpl : pg < w.heap.size := (Array.getElem?_eq_some_iff.1 hb0).1
  have hsz := hz.1
  have HNo := Lib.hid (And.intro h2 h3)
  have hq : freeIdx ss ≤ ss.length := hq
  simp only at HU hul hsz HNo ⊢
  clear hb hb0 hh0 hr0 hv1 hrw hz hG hn0 h2 h3
  generalize usedOf ss = u at *
  go_enter Tryz.func57, Tryz.ntmps57
  go_wp2
  go_loop [6] (fun i => ∃ j : Nat, j ≤ ss.length ∧ i = .int .i64 j ∧ Hid (∀ q (h : q < j) (hl : q < ss.length), (ss[q]).isSome = true)) (fun i => ss.length - (intOf i).toNat)
  case atStart => exact ⟨0, Nat.zero_le _, rfl, Lib.hid (fun q h => by omega)⟩
  case round =>
    obtain ⟨j, hj, rfl, hq⟩ := hrel
    by_cases hlt : j < ss.length
    · obtain ⟨bb, o, y, rfl, hy, hc', -⟩ := HH.out.cell (i := j) (by rw [dHas_length]; exact hlt)
      obtain rfl : y = .bool ss[j].isSome := by
        simp only [dHas, List.getElem?_map, List.getElem?_eq_getElem hlt, Option.map_some, Option.some.injEq] at hy
        exact hy.symm
      clear hy
      cases hs : ss[j].isSome with
      | true =>
        rw [hs] at hc'
        have HQ : Hid (∀ q (h : q < j + 1) (hl : q < ss.length), (ss[q]).isSome = true) := Lib.hid (fun q h hl => by
          by_cases e : q = j
          · subst e; exact hs
          · exact hq.out q (by omega) hl)
        clear hs hq
        go_wp2_with fail
        go_round
        case rel => exact ⟨j + 1, by omega, by go_num, HQ⟩
        case measure => simp [intOf]; omega
      | false =>
        rw [hs] at hc'
        have hfi := HF.out j hlt (fun q h => hq.out q h (by omega)) hs
        have hn := HNo.out
        rw [hfi, if_neg (by omega : ¬ j = ss.length)] at hn
        obtain ⟨hn1, hn2⟩ := hn
        have HJ := Lib.hid hfi
        clear hs hq hfi HNo HF HFe HH
        obtain ⟨gh, e, hRh⟩ := HO.out.addr (by omega)
        simp only [Option.some.injEq, Addr.mk.injEq, and_true] at e
        obtain ⟨rfl, rfl⟩ := e
        simp only [Nat.zero_add] at hc'
        have fh := HO.out.frozen j
        obtain ⟨gb, rfl⟩ : ∃ gb, ba = some ⟨gb, 0, none⟩ := by
          obtain ⟨_, _, vs, e, q1, q2⟩ := HR.out.shape
          obtain ⟨g, e, -⟩ := q1.addr (by omega)
          exact ⟨g, e⟩
        have hne : pg ≠ bb := fun e => HN0.out (by rw [e]; exact hRh)
        have c2 : (w.setCell ⟨bb, j, none⟩ (.bool true)).cell? ⟨pg, 2, none⟩ = some (.slice (some ⟨gb, 0, none⟩) ss.length bc) := (setCell_far hne).trans (cell_at HB.out 2 _ rfl)
        have HEm := Lib.hid (Own.empty_set w ⟨bb, j, none⟩ (.bool true) 5)
        have HRw := Lib.hid (HRb.out.kept (kept1 w bb j (.bool true)) (fun k hk e => (HG.out k hk).1 (by rw [show k = bb from e]; exact hRh)))
        have hsz2 : (([] : List Value).length + (b.map (Value.int .u8)).length) * (1 + 1) ≤ 140737488355328 := by rw [List.length_map]; simp; omega
        have HST := fun b5 c5 w5 h1 h2 => Lib.hid (DPgW.fillStep (b5 := b5) (l := ([] : List Value).length + (b.map (Value.int .u8)).length) (c5 := c5) (w5 := w5) (o := .cells #[] 5) (x := [] ++ b.map (Value.int .u8)) HB.out HR.out HO.out HN0.out (by rw [dRows_length]; exact hlt) h1 h2)
        go_wp2_with (refine HU.out.mono ?_; rintro e w' ⟨rfl, rfl⟩)
        go_region_law ((refine step_append_pg rfl _ _ 50 rfl tBytes (.slice (some ⟨w.heap.size, 0, none⟩) 0 0) (.slice va b.length vc) [] (b.map (Value.int .u8)) (From w.heap.size) G rfl rfl HEm.out.drew (HRw.out.alloc _).drew HOn.out hsz2 ?_; intro b5 c5 w5 ho5 hk5; have HQ := HST b5 c5 w5 ho5 hk5; have q1 := HQ.out.1; obtain ⟨q, q2⟩ := HQ.out.2.1; have q3 := HQ.out.2.2.1; clear ho5 hk5))
        all_goals
          go_wp2_with fail
          go_ret2
          have hf := HQ.out.2.2.2
          rw [List.nil_append, dRows_set, dHas_set, List.length_nil, Nat.zero_add, List.length_map] at hf
          refine ⟨by rw [HJ.out]; rfl, ⟨(fun k => R k ∨ (w.heap.size ≤ k ∧ k < (w5.setCell ⟨gb, j, none⟩ (.slice b5 b.length c5)).heap.size)), ?_, ?_⟩, hf.2.mono fun k _ e => .inr e⟩
          · rw [HJ.out, withOf, if_pos hlt]
            exact hf.1
          · exact fun k e => e.imp (fun e => e) (fun e => e.1)
    · obtain rfl : j = ss.length := by omega
      have hfi := HFe.out (fun q h => hq.out q h h)
      have hn := HNo.out
      rw [hfi, if_pos rfl] at hn
      obtain ⟨hn1, hn2⟩ := hn
      have HJ := Lib.hid hfi
      clear hq hfi HNo HF HFe HH
      have B0 : DPgB w pg kind id (.slice ba ss.length bc) (.slice ha ss.length hc) (dRows ss) (dHas ss) R := ⟨HB.out, HR.out, HO.out, HN0.out⟩
      have HB0 := Lib.hid B0
      have hsz3 : ((dHas ss).length + 1) * (1 + 1) ≤ 140737488355328 := by rw [dHas_length]; omega
      go_upto_region 13 with (first
        | (go_at_call 97; refine HU.out.mono ?_; rintro e w' ⟨rfl, rfl⟩)
        | (at_builtin; refine wpList_append1_pg rfl _ _ 98 rfl tFlags (.slice ha ss.length hc) (dHas ss) (.bool true) R ⟨w.heap.size, 0, none⟩ 1 rfl rfl (HO.out.alloc _) (by simp) rfl (Nat.le_refl _) rfl hsz3 ?_; intro g1 k1 w2 ho2 hk2; rw [dHas_length] at ho2 ⊢; have c32 := cell_at (HB0.out.hasHead hk2) 3 _ rfl; have f32 := frozen_at (HB0.out.hasHead hk2) 3; have HG1 := Lib.hid (HB0.out.low.growHas ho2 hk2); clear ho2 hk2))
      have HB1 := Lib.hid HG1.out.1
      have HK1 := Lib.hid HG1.out.2
      clear HG1 c32 f32 c3
      have hsz1 := HK1.out.size
      generalize w2.setCell ⟨pg, 3, none⟩ (.slice (some ⟨g1, 0, none⟩) (ss.length + 1) k1) = W3 at *
      obtain ⟨vs3, hv3, hrw3⟩ := HB1.out.rows
      have HL3 : Hid (vs3.length = ss.length) := Lib.hid (by rw [hrw3.len, dRows_length])
      have HV3 := Lib.hid hv3
      have HRW3 := Lib.hid hrw3
      clear hv3 hrw3
      have c23 : W3.cell? ⟨pg, 2, none⟩ = some (.slice ba ss.length bc) := cell_at HB1.out.head 2 _ rfl
      have hsz4 : (vs3.length + 1) * (24 + 1) ≤ 140737488355328 := by rw [HL3.out]; omega
      go_upto_region 14 with (at_builtin; refine wpList_append1_pg rfl _ _ 70 rfl tRows (.slice ba ss.length bc) vs3 (.slice none 0 0) _ ⟨W3.heap.size, 0, none⟩ 1 rfl rfl (HV3.out.alloc _) (by simp) rfl (Nat.le_refl _) rfl hsz4 ?_; intro g2 k2 w4 ho2 hk2; rw [HL3.out] at ho2 ⊢; have c24 := cell_at (HB1.out.rowsHead hk2) 2 _ rfl; have f24 := frozen_at (HB1.out.rowsHead hk2) 2; have HG2 := Lib.hid (HB1.out.growRows HV3.out HRW3.out (G := Nob) (fun _ _ f => f) (Own.nil _ _ _) ho2 hk2 (fun f => f)); clear ho2 hk2)
      have HB2 := Lib.hid HG2.out.1
      have HK2 := Lib.hid HG2.out.2
      clear HG2 c24 f24 c23
      have hsz2 := HK2.out.size
      generalize w4.setCell ⟨pg, 2, none⟩ (.slice (some ⟨g2, 0, none⟩) (ss.length + 1) k2) = W5 at *
      have hln : ss.length < ss.length + 1 := Nat.lt_succ_self _
      generalize ss.length + 1 = n1 at *
      have hpl5 : pg < W5.heap.size := HB2.out.lt
      have c35 : W5.cell? ⟨pg, 3, none⟩ = some (.slice (some ⟨g1, 0, none⟩) n1 k1) := cell_at HB2.out.head 3 _ rfl
      have hc5 : W5.cell? ⟨g1, ss.length, none⟩ = some (.bool true) := HB2.out.has.cell ss.length _ (by rw [List.getElem?_append_right (by rw [dHas_length]; exact Nat.le_refl _), dHas_length, Nat.sub_self]; rfl)
      have fh := HB2.out.has.frozen ss.length
      have hRh := HB2.out.has.2 g1 rfl
      have hne : pg ≠ g1 := fun e => HB2.out.out (by rw [e]; exact hRh)
      have c2 : (W5.setCell ⟨g1, ss.length, none⟩ (.bool true)).cell? ⟨pg, 2, none⟩ = some (.slice (some ⟨g2, 0, none⟩) n1 k2) := (setCell_far hne).trans (cell_at HB2.out.head 2 _ rfl)
      have HEm := Lib.hid (Own.empty_set W5 ⟨g1, ss.length, none⟩ (.bool true) 5)
      have hs1 := set_size W5 ⟨g1, ss.length, none⟩ (.bool true)
      have HRb5 : Hid (Reads W5 (.slice va b.length vc) (b.map (Value.int .u8)) (fun k => G k ∧ k < w.heap.size)) := Lib.hid (((HRb.out.mono (G := fun k => G k ∧ k < w.heap.size) fun k hk h => ⟨h, hk⟩).kept HK1.out (fun k hk e => by
          rcases e with e | e
          · exact (HG.out k hk.1).2 e
          · exact (HG.out k hk.1).1 e.1)).kept HK2.out (fun k hk e => by
          rcases e with e | e | e
          · exact (HG.out k hk.1).2 e
          · exact (HG.out k hk.1).1 e.1
          · omega))
      have hng : ¬ (G g1 ∧ g1 < w.heap.size) := fun h => by
        rcases hRh with (e | e) | e | e
        · exact (HG.out g1 h.1).1 e.1
        · omega
        · exact e
        · omega
      have HRw := Lib.hid (HRb5.out.kept (kept1 W5 g1 ss.length (.bool true)) (fun k hk e => hng (by rw [← show k = g1 from e]; exact hk)))
      have hsz3 : (([] : List Value).length + (b.map (Value.int .u8)).length) * (1 + 1) ≤ 140737488355328 := by rw [List.length_map]; simp; omega
      have HST := fun b5 c5 w5 h1 h2 => Lib.hid (DPgW.fillStep (b5 := b5) (l := ([] : List Value).length + (b.map (Value.int .u8)).length) (c5 := c5) (w5 := w5) (j := ss.length) (o := .cells #[] 5) (x := [] ++ b.map (Value.int .u8)) HB2.out.head HB2.out.rows HB2.out.has HB2.out.out (by rw [List.length_append, dRows_length]; simp) h1 h2)
      clear hRh hng
      go_wp2_with fail
      go_region_law ((refine step_append_pg rfl _ _ 50 rfl tBytes (.slice (some ⟨W5.heap.size, 0, none⟩) 0 0) (.slice va b.length vc) [] (b.map (Value.int .u8)) (From W5.heap.size) _ rfl rfl HEm.out.drew (HRw.out.alloc _).drew HOn.out hsz3 ?_; intro b5 c5 w5 ho5 hk5; have HQ := HST b5 c5 w5 ho5 hk5; have q1 := HQ.out.1; obtain ⟨q, q2⟩ := HQ.out.2.1; have q3 := HQ.out.2.2.1; clear ho5 hk5))
      all_goals
        go_wp2_with fail
        go_ret2
        have hf := HQ.out.2.2.2
        have e1 : (dRows ss ++ [[]]).set ss.length (b.map (Value.int .u8)) = dRows (ss ++ [some b]) := by
          have : ss.length = (dRows ss).length := (dRows_length ss).symm
          rw [List.set_append_right _ _ (by rw [dRows_length]; exact Nat.le_refl _), dRows_length, Nat.sub_self]
          simp [dRows]
        have e2 : (dHas ss ++ [Value.bool true]).set ss.length (Value.bool true) = dHas (ss ++ [some b]) := by
          rw [List.set_append_right _ _ (by rw [dHas_length]; exact Nat.le_refl _), dHas_length, Nat.sub_self]
          simp [dHas]
        rw [List.nil_append, e1, e2, List.length_nil, Nat.zero_add, List.length_map] at hf
        refine ⟨by rw [HJ.out]; rfl, ⟨_, by rw [HJ.out, withOf, if_neg (by omega)]; exact hf.1, ?_⟩, ?_⟩
        · intro k e
          rcases e with ((e | e) | e | e) | e
          · exact .inl e.1
          · exact .inr e.1
          · exact e.elim
          · exact .inr (by omega)
          · exact .inr (by omega)
        · have q1 : Kept (PgF pg R) w W3 := HK1.out.mono fun k _ e => e.imp (fun e => e) (fun e => e.1)
          have q2 : Kept (PgF pg R) w W5 := q1.trans HK2.out fun k hk e => by
            rcases e with e | e | e
            · exact .inl e
            · exact .inr e.1
            · omega
          exact q2.trans hf.2 fun k hk e => by
            rcases e with (e | e) | e | e
            · exact .inr e.1
            · omega
            · exact e.elim
            · omega
end Go.Proofs.YthppgchmamonnaaGreatDoor
