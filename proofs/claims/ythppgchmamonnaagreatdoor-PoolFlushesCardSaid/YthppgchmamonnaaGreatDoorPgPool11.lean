/- The pool: Dirty. -/
import Derived.Test.YthppgchmamonnaaGreatDoorPgPool10
namespace Go.Proofs.YthppgchmamonnaaGreatDoor
open Go.RowKit

/-- the dirty ones' numbers -/
def dirtyOf (l : List (Int × Hd)) : List Value := (l.filter fun p => p.2.dirty).map fun p => .int .i64 p.1
theorem dirtyOf_take (l : List (Int × Hd)) (j : Nat) (h : j < l.length) : dirtyOf (l.take (j + 1)) = dirtyOf (l.take j) ++ if l[j].2.dirty then [.int .i64 l[j].1] else [] := by
  rw [List.take_succ_eq_append_getElem h, dirtyOf, List.filter_append, List.map_append]
  unfold dirtyOf
  congr 1
  by_cases hd : l[j].2.dirty = true
  · simp [hd]
  · simp [hd]
theorem dirtyOf_len (l : List (Int × Hd)) (j : Nat) : (dirtyOf (l.take j)).length ≤ l.length := by
  rw [dirtyOf, List.length_map]
  exact Nat.le_trans (List.length_filter_le _ _) (by rw [List.length_take]; omega)
/-- inside Dirty -/
def DirtyRel (w : World) (l : List (Int × Hd)) (j : Nat) (v : Value) (wr : World) : Prop :=
  ∃ b c, v = .slice b (dirtyOf (l.take j)).length c ∧ Own wr 3 v (dirtyOf (l.take j)) (From w.heap.size) ∧ Kept Nob w wr
set_option maxRecDepth 100000 in
set_option maxHeartbeats 1000000 in
theorem pool_dirty (w : World) (b bd mb : Nat) (P : Pl) (S : Nat → Prop) (h : PoolAt w b bd mb P S) (hk : P.Keyed) (hl : P.all.length ≤ 100000) :
    Calls Tryz.prog 16 #[.pointer (some ⟨b, 0, none⟩)] w fun e w' => ∃ a c, e = .returned (.slice a (dirtyOf P.all).length c) ∧ Own w' 3 (.slice a (dirtyOf P.all).length c) (dirtyOf P.all) (From w.heap.size) ∧ Kept Nob w w' := by
  have HP := Lib.hid h
  have HKy := Lib.hid hk
  have HH := Lib.hid (pool_held w b bd mb P S h hl)
  have HR0 : Hid (∀ w1, DirtyRel w1 P.all 0 (.slice none 0 0) w1) := Lib.hid fun w1 => ⟨none, 0, rfl, Own.nil _ _ _, Kept.refl _ _⟩
  clear h hk
  go_enter Tryz.func16, Tryz.ntmps16
  go_wp2_with fail
  refine HH.out.mono ?_
  rintro e w2 ⟨a2, k2, rfl, ho2, hk2⟩
  have HO2 := Lib.hid ho2.reads
  have HK2 := Lib.hid hk2
  have HL : Hid (P.keys.length = P.all.length) := Lib.hid (by simp [Pl.keys])
  clear ho2 hk2 HH
  go_wp2_with fail
  go_loopw [2, 8] (fun o i wr => ∃ j : Nat, j ≤ P.all.length ∧ i = .int .i64 j ∧ DirtyRel w2 P.all j o wr) (fun _ i _ => P.all.length - (intOf i).toNat)
  case atStart => exact ⟨0, Nat.zero_le _, rfl, HR0.out _⟩
  case round =>
    clear HR0
    obtain ⟨j, hj, rfl, ob, oc, rfl, ho, hkw⟩ := hrel
    · skip
      have HO := Lib.hid ho
      have HKW := Lib.hid hkw
      have hPr := HP.out.nob (HK2.out.then hkw)
      have c5 : wr.cell? ⟨b, 5, none⟩ = some (.map (some mb)) := cell_at hPr.head 5 _ rfl
      have HPr := Lib.hid hPr
      have HBd := Lib.hid (dirtyOf_len P.all j)
      clear hPr hkw ho
      by_cases hlt : j < P.all.length
      · have hmem := List.getElem_mem hlt
        have HT := Lib.hid (dirtyOf_take P.all j hlt)
        obtain ⟨gb, go, xv, rfl, hx, hc, -⟩ := (HO2.out.kept HKW.out (fun _ _ f => f)).cell (i := j) (by rw [HL.out]; exact hlt)
        obtain rfl : xv = .int .i64 P.all[j].1 := by
          rw [Pl.keys, List.getElem?_map, List.getElem?_eq_getElem hlt] at hx
          exact (Option.some.inj hx).symm
        clear hx
        obtain ⟨key, x, he⟩ : ∃ key x, P.all[j] = (key, x) := ⟨_, _, rfl⟩
        rw [he] at hmem HT hc
        clear he
        have hlk := HPr.out.look HKy.out hmem
        have hb := (HPr.out.held _ hmem).2
        have d2 : wr.cell? ⟨x.g, 2, none⟩ = some (.bool x.dirty) := cell_at hb 2 _ rfl
        have hgl : x.g < wr.heap.size := (Array.getElem?_eq_some_iff.1 hb).1
        clear hb hmem
        cases hdt : x.dirty with
        | false =>
          rw [hdt] at d2
          have HN : Hid (DirtyRel w2 P.all (j + 1) (.slice ob (dirtyOf (P.all.take j)).length oc) wr) := by
            have e : dirtyOf (P.all.take (j + 1)) = dirtyOf (P.all.take j) := by rw [HT.out]; simp [hdt]
            refine Lib.hid ⟨ob, oc, by rw [e], by rw [e]; exact HO.out, HKW.out⟩
          clear hdt
          generalize dirtyOf (P.all.take j) = zs at *
          go_wp2_with fail
          go_roundw
          case rel => exact ⟨j + 1, by omega, by go_num, HN.out⟩
          case measure => simp [intOf]; omega
        | true =>
          rw [hdt] at d2
          have HE : Hid (dirtyOf (P.all.take (j + 1)) = dirtyOf (P.all.take j) ++ [Value.int .i64 key]) := Lib.hid (by rw [HT.out]; simp [hdt])
          clear hdt HT
          generalize dirtyOf (P.all.take j) = zs at *
          go_wp2_with (at_builtin; refine wpList_append1_pg rfl _ _ 36 rfl tInts (.slice ob zs.length oc) zs (.int .i64 key) (From w2.heap.size) ⟨wr.heap.size, 0, none⟩ 1 rfl rfl (HO.out.alloc _) (by simp) rfl (Nat.le_refl _) rfl (by have := HBd.out; omega) ?_; intro g2 cap2 w4 ho4 hk4; have HO4 := Lib.hid ho4; have HK4 := Lib.hid hk4; clear ho4 hk4)
          have HN : Hid (DirtyRel w2 P.all (j + 1) (.slice (some ⟨g2, 0, none⟩) (zs.length + 1) cap2) w4) := by
            have hl : (zs ++ [Value.int .i64 key]).length = zs.length + 1 := by simp
            refine Lib.hid ⟨some ⟨g2, 0, none⟩, cap2, by rw [HE.out, hl], ?_, ?_⟩
            · rw [HE.out]
              refine HO4.out.mono fun x _ hx => ?_
              rcases hx with hx | hx
              · exact HO.out.2 x hx
              · have := HKW.out.size; simp at hx; show _ ≤ _; omega
            · exact (HKW.out.then (Kept.alloc Nob wr _)).from (Nat.le_refl _) (HK4.out.mono fun x _ hx => HO.out.2 x hx)
          go_roundw
          case rel => exact ⟨j + 1, by omega, by go_num, HN.out⟩
          case measure => simp [intOf]; omega
      · have hjl : j = P.all.length := by omega
        subst hjl
        rw [List.take_of_length_le (Nat.le_refl _)] at HO ⊢
        go_wp2_with fail
        go_ret
        exact ⟨ob, oc, rfl, HO.out.mono fun x _ hx => Nat.le_trans HK2.out.size hx, HK2.out.then HKW.out⟩
end Go.Proofs.YthppgchmamonnaaGreatDoor
