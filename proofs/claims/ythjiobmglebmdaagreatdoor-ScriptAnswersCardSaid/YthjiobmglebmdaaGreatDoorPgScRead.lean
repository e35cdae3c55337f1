/- script: numbers and points, read. -/
import Derived.Test.YthjiobmglebmdaaGreatDoorPgScObj
namespace Go.Proofs.YthjiobmglebmdaaGreatDoor
open Go.RowKit
open Go.Proofs.YthjiobmglebmdaaGreatDoor.Geo Go.Proofs.YthjiobmglebmdaaGreatDoor.Txt

/-- two results: a cell of a struct, and a slot -/
theorem bodyPost_cell2 {P : Program} {fn : Func} {R : Ending → World → Prop} {a : Act} {w : World} {p u : Tmp} {ty : TypeId} {g : Nat} {t : TypeId} {cs : Array Value} {d : TypeDesc}
    (h : fn.results = #[.cell p ty, .tmp u]) (hp : a.tmps.getD p undef = .pointer (some ⟨g, 0, none⟩)) (hg : w.heap[g]? = some (.cells cs t (0, 0)))
    (hu : P.underlying ty = some d) (hd : (match d with | .struct _ | .array _ _ => true | _ => false) = true) (hi : (P.info? ty).map (·.size) = some cs.size)
    (hdf : a.defers = []) (hR : R (.returned (.tuple #[.agg cs, a.tmps.getD u undef])) w) : bodyPost P fn R .ret a w :=
  bodyPost_ret (by
    rw [results_cell_tmp h, hp]
    simp [asAddr, run_loadVar_row w g t ty cs (0, 0) d hg hu hd hi, Result.andThen]) hdf hR

def InI64 (n : Int) : Prop := -9223372036854775808 ≤ n ∧ n ≤ 9223372036854775807
theorem mk_inj {a b : List UInt8} (h : (⟨a.toArray⟩ : ByteArray) = ⟨b.toArray⟩) : a = b := by
  injection h with h
  have := congrArg Array.toList h
  simpa using this
/-- how a number is read: v, and whether it is one; whatever is a number's one form is read as that number -/
def NumRes (s : List UInt8) (v : Int) (b : Bool) : Prop := InI64 v ∧ ∀ m, -1099511627776 ≤ m → m ≤ 1099511627776 → s = Lib.itoa m → v = m ∧ b = true
set_option maxHeartbeats 1000000 in
theorem script_num (w : World) (s : List UInt8) (hs : s.length ≤ 281474976710656) (hE : Env w) :
    Calls Tryz.prog 100 #[strV s] w fun e w' => ∃ v b, e = .returned (.tuple #[.int .i64 v, .bool b]) ∧ NumRes s v b ∧ Kept Nob w w' := by
  have HA := Lib.hid (str_atoi w s hs hE)
  have HE := Lib.hid hE
  clear hE
  obtain ⟨ts, hts⟩ : ∃ u, (⟨s.toArray⟩ : ByteArray) = u := ⟨_, rfl⟩
  unfold strV at HA ⊢
  rw [hts] at HA ⊢
  have HTs := Lib.hid hts
  clear hts
  go_enter Tryz.func100, Tryz.ntmps100
  go_wp2_with fail
  refine HA.out.mono ?_
  rintro e w1 ⟨v, t, rfl, ht, hv, hvs, hk⟩
  have HK := Lib.hid hk
  have HV := Lib.hid hv
  have HVs := Lib.hid hvs
  rcases ht with ⟨hp, rfl⟩ | ⟨hp, t, u, rfl⟩
  · have HP := Lib.hid hp
    have HI := fun (wx : World) (kx : Kept Nob w wx) => Lib.hid (str_itoa wx v hv.1 hv.2 (HE.out.kept kx))
    unfold strV at HI
    obtain ⟨tn, htn⟩ : ∃ u, (⟨(Lib.itoa v).toArray⟩ : ByteArray) = u := ⟨_, rfl⟩
    rw [htn] at HI
    have HTn := Lib.hid htn
    clear htn hp hk hv hvs HA
    go_wp2_with fail
    refine (HI _ HK.out).out.mono ?_
    rintro e w2 ⟨rfl, hk2⟩
    have HK2 := Lib.hid (HK.out.then hk2)
    clear hk2
    go_wp2_with fail
    go_ret2
    refine ⟨_, _, rfl, ⟨HV.out, fun m h0 h1 hm => ?_⟩, HK2.out⟩
    have e1 := Txt.atoi_itoa m (by omega) (by omega)
    obtain rfl : v = m := HVs.out m (by rw [hm, e1])
    refine ⟨rfl, ?_⟩
    rw [← HTn.out, ← HTs.out, hm]
    simp
  · have HP := Lib.hid hp
    clear hp hk hv hvs HA
    go_wp2_with fail
    go_ret2
    refine ⟨_, _, rfl, ⟨HV.out, fun m h0 h1 hm => ?_⟩, HK.out⟩
    have e1 := Txt.atoi_itoa m (by omega) (by omega)
    exact absurd ⟨m, by rw [hm, e1]⟩ HP.out

/-- how a point is read -/
def PtRes (s : List UInt8) (p : Pt) (b : Bool) : Prop := ∀ q, ok q = true → s = ptTxt q → p = q ∧ b = true
set_option maxHeartbeats 2000000 in
theorem script_Point (w : World) (s : List UInt8) (hs : s.length ≤ 1000000) (hE : Env w) :
    Calls Tryz.prog 72 #[strV s] w fun e w' => ∃ p b, e = .returned (.tuple #[.agg #[.int .i64 p.1, .int .i64 p.2], .bool b]) ∧ PtRes s p b ∧ Kept Nob w w' := by
  have HC := fun (wx : World) (kx : Kept Nob w wx) => Lib.hid (str_cut wx s (by omega) (hE.kept kx))
  obtain ⟨⟨sa, sb, cb⟩, hc⟩ : ∃ c, Lib.cut s [44] = c := ⟨_, rfl⟩
  have hla : sa.length ≤ s.length ∧ sb.length ≤ s.length := by
    unfold Lib.cut at hc
    split at hc
    · simp only [Prod.mk.injEq] at hc
      rw [← hc.1, ← hc.2.1]
      simp only [List.length_take, List.length_drop]
      omega
    · simp only [Prod.mk.injEq] at hc
      rw [← hc.1, ← hc.2.1]
      simp
  have HA := fun (wx : World) (kx : Kept Nob w wx) => Lib.hid (script_num wx sa (by omega) (hE.kept kx))
  have HB := fun (wx : World) (kx : Kept Nob w wx) => Lib.hid (script_num wx sb (by omega) (hE.kept kx))
  simp only [hc] at HC
  have HCt := Lib.hid hc
  clear hc hla hE
  unfold strV at HC HA HB ⊢
  generalize hga : (⟨sa.toArray⟩ : ByteArray) = ta at HC HA
  generalize hgb : (⟨sb.toArray⟩ : ByteArray) = tb at HC HB
  generalize (⟨s.toArray⟩ : ByteArray) = ts at HC ⊢
  clear hga hgb
  go_enter Tryz.func72, Tryz.ntmps72
  go_wp2_with fail
  refine (HC _ (Kept.alloc Nob _ _)).out.mono ?_
  rintro e w1 ⟨rfl, hk1⟩
  have HB1 := Lib.hid hk1
  have HK1 := Lib.hid ((Kept.alloc Nob w _).then hk1)
  clear hk1
  go_wp2_with fail
  refine (HA _ HK1.out).out.mono ?_
  rintro e w2 ⟨x, b1, rfl, hn1, hk2⟩
  have HB2 := Lib.hid (HB1.out.then hk2)
  have HK2 := Lib.hid (HK1.out.then hk2)
  have HN1 := Lib.hid hn1
  clear hk2 hn1
  go_wp2_with fail
  refine (HB _ HK2.out).out.mono ?_
  rintro e w3 ⟨y, b2, rfl, hn2, hk3⟩
  have HB3 := Lib.hid (HB2.out.then hk3)
  have HK3 := Lib.hid (HK2.out.then hk3)
  have HN2 := Lib.hid hn2
  clear hk3 hn2
  have bb := new1 HB3.out
  have c0 := cell_at bb 0 _ rfl
  have c1 := cell_at bb 1 _ rfl
  have f0 := frozen_at bb 0
  have f1 := frozen_at bb 1
  have BB := Lib.hid bb
  clear bb
  have HR : Hid (PtRes s (x, y) (cb && b1 && b2)) := Lib.hid (fun q hq he => by
    have h1 := Txt.cut_at 44 (Lib.itoa q.1) (Lib.itoa q.2) (Txt.itoa_free q.1).2
    rw [show Lib.itoa q.1 ++ 44 :: Lib.itoa q.2 = s from he.symm, HCt.out] at h1
    simp only [Prod.mk.injEq] at h1
    obtain ⟨rfl, rfl, rfl⟩ := h1
    rw [ok_iff] at hq
    obtain ⟨rfl, rfl⟩ := HN1.out.2 q.1 (by omega) (by omega) rfl
    obtain ⟨rfl, rfl⟩ := HN2.out.2 q.2 (by omega) (by omega) rfl
    exact ⟨rfl, rfl⟩)
  have HS2 := fun (W : World) (hb : W.heap[w.heap.size]? = some (.cells #[.int .i64 0, .int .i64 0] 42 (0, 0))) => Lib.hid (set2 (.int .i64 x) (.int .i64 y) hb)
  have HE2 := HS2 w3 BB.out
  have HKf : Hid (Kept Nob w ((w3.setCell ⟨w.heap.size, 0, none⟩ (.int .i64 x)).setCell ⟨w.heap.size, 1, none⟩ (.int .i64 y))) :=
    Lib.hid (HK3.out.from (Nat.le_refl _) (HE2.out.2.mono fun k _ (h : k = w.heap.size) => Nat.le_of_eq h.symm))
  clear HS2
  cases cb <;> cases b1 <;> cases b2
  all_goals go_wp2_with fail
  all_goals exact bodyPost_cell2 (p := 2) (u := 3) (ty := 42) (g := w.heap.size) (by kernel_rfl) rfl HE2.out.1 Tryz.underlying42 rfl (by kernel_rfl) rfl ⟨(x, y), _, rfl, HR.out, HKf.out⟩
end Go.Proofs.YthjiobmglebmdaaGreatDoor
