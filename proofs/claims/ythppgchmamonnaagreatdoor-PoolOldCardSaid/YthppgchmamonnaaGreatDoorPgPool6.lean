/- The pool: evict. -/
import Derived.Test.YthppgchmamonnaaGreatDoorPgPool5
namespace Go.Proofs.YthppgchmamonnaaGreatDoor
open Go.RowKit

theorem PoolAt.len {w : World} {b bd mb : Nat} {P : Pl} {S : Nat → Prop} (h : PoolAt w b bd mb P S) (ty : TypeId) :
    (Builtin.len_ #[74] ty #[.map (some mb)]).run Tryz.prog w = .ok (.int .i64 P.all.length) w := by
  have := h.map.len Tryz.underlying74 ty
  rwa [show P.map.length = P.all.length from by simp [Pl.map]] at this
/-- a page goes out of the map -/
theorem PoolAt.dropped {w w' : World} {b bd mb : Nat} {P : Pl} {S : Nat → Prop} (h : PoolAt w b bd mb P S) {k : Int} (hm : MapAt w' mb (del P.map k)) (hk : Kept (Just mb) w w') : PoolAt w' b bd mb { P with all := P.all.filter fun p => !(p.1 == k) } S := by
  have hS : ∀ x, S x → ¬ Just mb x := fun x hx hj => h.Sm (by rw [show x = mb from hj] at hx; exact hx)
  refine ⟨(hk.block b h.lt h.bm).trans h.head, ?_, fun p hp => ?_, h.once.filter _, h.Sb, h.Sm, h.bm, h.under.mono hk.size⟩
  · have e : del P.map k = Pl.map { P with all := P.all.filter fun p => !(p.1 == k) } := by
      simp only [del, Pl.map, List.filter_map]
      rfl
    rw [← e]; exact hm
  · have hp' := (List.mem_filter.1 hp).1
    exact ⟨(h.held p hp').1, (hk.block _ (h.under _ (h.held p hp').1) (hS _ (h.held p hp').1)).trans (h.held p hp').2⟩
theorem pool_evict_room (w : World) (b bd mb : Nat) (P : Pl) (S : Nat → Prop) (h : PoolAt w b bd mb P S) (hl : P.all.length < P.room) (hr : P.room ≤ 100) :
    Calls Tryz.prog 35 #[.pointer (some ⟨b, 0, none⟩)] w fun e w' => e = .returned .nilIface ∧ ∃ n, w' = w.drewN n := by
  have c2 : w.cell? ⟨b, 2, none⟩ = some (.int .i64 P.room) := cell_at h.head 2 _ rfl
  have c5 : w.cell? ⟨b, 5, none⟩ = some (.map (some mb)) := cell_at h.head 5 _ rfl
  have hln := fun n => (h.nob (Kept.drewN Nob w n)).len 3
  have ht : (P.all.length : Int) < (P.room : Int) := by omega
  clear h
  go_enter Tryz.func35, Tryz.ntmps35
  go_wp2_with fail
  go_quiet (fail)
  go_wp2_with fail
  go_ret
  exact ⟨rfl, nq, rfl⟩

set_option maxRecDepth 100000 in
set_option maxHeartbeats 2000000 in
theorem pool_evict_full (w : World) (b bd mb : Nat) (P : Pl) (S : Nat → Prop) (h : PoolAt w b bd mb P S) (hk : P.Keyed) (hl : P.room ≤ P.all.length) (hr : P.all.length ≤ 100) (hu : ∀ p ∈ P.all, p.2.used ≤ 1000000000000) (hcl : ∀ x, bestOf P P.all = some x → x.2.dirty = false) :
    Calls Tryz.prog 35 #[.pointer (some ⟨b, 0, none⟩)] w fun e w' =>
      (bestOf P P.all = none → e = .returned (.iface 69 (.int .i64 8)) ∧ Kept Nob w w') ∧
      (∀ x, bestOf P P.all = some x → e = .returned .nilIface ∧ PoolAt w' b bd mb { P with all := P.all.filter fun p => !(p.1 == x.1) } S ∧ Kept (Just mb) w w') := by
  have c2 : w.cell? ⟨b, 2, none⟩ = some (.int .i64 P.room) := cell_at h.head 2 _ rfl
  have c5 : w.cell? ⟨b, 5, none⟩ = some (.map (some mb)) := cell_at h.head 5 _ rfl
  have hln := fun n => (h.nob (Kept.drewN Nob w n)).len 3
  have ht : ¬ (P.all.length : Int) < (P.room : Int) := by omega
  have HP := Lib.hid h
  have HH := Lib.hid (fun n => pool_held (w.drewN n) b bd mb P S (h.nob (Kept.drewN Nob w n)) (by omega))
  have HKy := Lib.hid hk
  have HU := Lib.hid hu
  have HCl := Lib.hid hcl
  clear h hk hu hcl
  go_enter Tryz.func35, Tryz.ntmps35
  go_wp2_with fail
  go_quiet (fail)
  clear hln
  go_wp2_with fail
  refine (HH.out nq).mono ?_
  rintro e w2 ⟨a2, k2, rfl, ho2, hk2⟩
  have HO2 := Lib.hid ho2.reads
  have HK2 := Lib.hid ((Kept.drewN Nob w nq).trans' hk2)
  clear ho2 hk2 HH c2 c5
  go_wp2_with fail
  have HR0 : Hid (Kept Nob w2 w2) := Kept.refl _ _
  go_loopw [3, 21] (fun bv i wr => ∃ j : Nat, j ≤ P.all.length ∧ i = .int .i64 j ∧ bv = .int .i64 (keyOr (bestOf P (P.all.take j))) ∧ Kept Nob w2 wr) (fun _ i _ => P.all.length - (intOf i).toNat)
  case atStart => exact ⟨0, Nat.zero_le _, rfl, rfl, HR0.out⟩
  case round =>
    clear HR0
    obtain ⟨j, hj, rfl, rfl, hkw⟩ := hrel
    have HK := Lib.hid hkw
    have hPr := HP.out.nob (HK2.out.then hkw)
    have c5 : wr.cell? ⟨b, 5, none⟩ = some (.map (some mb)) := cell_at hPr.head 5 _ rfl
    have HPr := Lib.hid hPr
    clear hPr hkw
    by_cases hlt : j < P.all.length
    · have hmem := List.getElem_mem hlt
      have hbt := bestOf_take P P.all j hlt
      obtain ⟨gb, go, xv, rfl, hx, hc, -⟩ := (HO2.out.kept HK.out (fun _ _ f => f)).cell (i := j) (by simpa [Pl.keys] using hlt)
      obtain rfl : xv = .int .i64 P.all[j].1 := by
        rw [Pl.keys, List.getElem?_map, List.getElem?_eq_getElem hlt] at hx
        exact (Option.some.inj hx).symm
      clear hx
      have HBt := Lib.hid hbt
      obtain ⟨key, x, he⟩ : ∃ key x, P.all[j] = (key, x) := ⟨_, _, rfl⟩
      rw [he] at hmem HBt hc
      clear hbt he
      have hlk := HPr.out.look HKy.out hmem
      have hb := (HPr.out.held _ hmem).2
      have d4 : wr.cell? ⟨x.g, 4, none⟩ = some (.int .i64 x.used) := cell_at hb 4 _ rfl
      have HMy := Lib.hid (fun n => pool_may (wr.drewN n) b bd mb P S (HPr.out.nob (Kept.drewN Nob wr n)) key x hmem)
      clear hb
      go_upto_region 8 with fail
      cases hm : P.may x
      · rw [hm] at HMy
        have HB2 : Hid (Value.int .i64 (keyOr (bestOf P (P.all.take j))) = .int .i64 (keyOr (bestOf P (P.all.take (j + 1))))) := by
          refine Lib.hid ?_
          rw [HBt.out, better_no hm]
        clear hm
        generalize keyOr (bestOf P (P.all.take j)) = q at *
        go_quiet ((go_at_call 63; exact Calls.quiet_of (HMy.out _)))
        go_wp2_with fail
        have HN := Lib.hid (HK.out.then (Kept.drewN Nob wr nq))
        go_roundw
        case rel => exact ⟨j + 1, by omega, by go_num, HB2.out, HN.out⟩
        case measure => simp [intOf]; omega
      · rw [hm] at HMy
        cases hacc : bestOf P (P.all.take j) with
        | none =>
          have HB2 : Hid (Value.int .i64 key = .int .i64 (keyOr (bestOf P (P.all.take (j + 1))))) := by
            refine Lib.hid ?_
            rw [HBt.out, hacc, better_none hm]; rfl
          rw [show keyOr none = -1 from rfl]
          clear hm hacc
          go_quiet ((go_at_call 63; exact Calls.quiet_of (HMy.out _)))
          go_wp2_with fail
          have HN := Lib.hid (HK.out.then (Kept.drewN Nob wr nq))
          go_roundw
          case rel => exact ⟨j + 1, by omega, by go_num, HB2.out, HN.out⟩
          case measure => simp [intOf]; omega
        | some y =>
          obtain ⟨yk, y⟩ := y
          have hym : (yk, y) ∈ P.all := List.mem_of_mem_take (bestOf_mem P _ _ hacc).1
          have hly := fun n => (HPr.out.nob (Kept.drewN Nob wr n)).look HKy.out hym
          have hyb := (HPr.out.held _ hym).2
          have e4 : wr.cell? ⟨y.g, 4, none⟩ = some (.int .i64 y.used) := cell_at hyb 4 _ rfl
          have hy0 := (HKy.out _ hym).1
          have hn0 : decide (yk < 0) = false := by simpa using hy0
          rw [show keyOr (some (yk, y)) = yk from rfl]
          clear hyb hy0 hym
          by_cases hus : x.used < y.used
          · have HB2 : Hid (Value.int .i64 key = .int .i64 (keyOr (bestOf P (P.all.take (j + 1))))) := by
              refine Lib.hid ?_
              rw [HBt.out, hacc, better_some hm, if_pos hus]; rfl
            have hus' : decide ((x.used : Int) < (y.used : Int)) = true := by simpa using hus
            clear hm hacc
            go_quiet ((go_at_call 63; exact Calls.quiet_of (HMy.out _)))
            go_wp2_with fail
            have HN := Lib.hid (HK.out.then (Kept.drewN Nob wr nq))
            go_roundw
            case rel => exact ⟨j + 1, by omega, by go_num, HB2.out, HN.out⟩
            case measure => simp [intOf]; omega
          · have HB2 : Hid (Value.int .i64 yk = .int .i64 (keyOr (bestOf P (P.all.take (j + 1))))) := by
              refine Lib.hid ?_
              rw [HBt.out, hacc, better_some hm, if_neg hus]; rfl
            have hus' : decide ((x.used : Int) < (y.used : Int)) = false := by simpa using hus
            clear hm hacc
            go_quiet ((go_at_call 63; exact Calls.quiet_of (HMy.out _)))
            go_wp2_with fail
            have HN := Lib.hid (HK.out.then (Kept.drewN Nob wr nq))
            go_roundw
            case rel => exact ⟨j + 1, by omega, by go_num, HB2.out, HN.out⟩
            case measure => simp [intOf]; omega
    · have hjl : j = P.all.length := by omega
      subst hjl
      rw [List.take_of_length_le (Nat.le_refl _)]
      cases hb : bestOf P P.all with
      | none =>
        rw [show keyOr none = -1 from rfl]
        go_wp2_with fail
        go_ret
        exact ⟨fun _ => ⟨rfl, HK2.out.then HK.out⟩, fun x h => by rw [hb] at h; cases h⟩
      | some x =>
        obtain ⟨xk, x⟩ := x
        have hxm := (bestOf_mem P _ _ hb).1
        have hxk := HKy.out _ hxm
        have hlk := HPr.out.look HKy.out hxm
        have d2 : wr.cell? ⟨x.g, 2, none⟩ = some (.bool x.dirty) := cell_at (HPr.out.held _ hxm).2 2 _ rfl
        rw [HCl.out _ hb] at d2
        have hn0 : ¬ xk < 0 := by have := hxk.1; simpa using this
        obtain ⟨w', hdel, hmap, hkm⟩ := HPr.out.map.drop Tryz.underlying74 xk (by simp only [Lit.wf, Bool.and_eq_true, decide_eq_true_eq]; exact ⟨by show -9223372036854775808 ≤ xk; omega, by show xk ≤ 9223372036854775807; have := hxk.2; simp at this; omega⟩) 0
        rw [show keyOr (some (xk, x)) = xk from rfl]
        have HM := Lib.hid hmap
        have HKm := Lib.hid hkm
        clear hmap hkm hxk
        go_wp2_with fail
        go_ret
        exact ⟨rfl, HPr.out.dropped HM.out HKm.out, (HK2.out.then HK.out).nob.trans' HKm.out⟩
end Go.Proofs.YthppgchmamonnaaGreatDoor
