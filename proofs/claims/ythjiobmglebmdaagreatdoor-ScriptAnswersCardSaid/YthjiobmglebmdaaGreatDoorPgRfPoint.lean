/- The document's own points, read. -/
import Derived.Test.YthjiobmglebmdaaGreatDoorPgRfSplit
namespace Go.Proofs.YthjiobmglebmdaaGreatDoor
open Go.RowKit
open Go.Proofs.YthjiobmglebmdaaGreatDoor.Geo Go.Proofs.YthjiobmglebmdaaGreatDoor.Txt

theorem cut_first {s : List UInt8} {k : Nat} (hk : k < s.length) (hb : s[k] = 44) (hfree : (44 : UInt8) ∉ s.take k) {q : Pt} (hq : s = ptTxt q) : s.take k = Lib.itoa q.1 ∧ s.drop (k + 1) = Lib.itoa q.2 := by
  have e1 : s = s.take k ++ 44 :: s.drop (k + 1) := by
    conv => lhs; rw [← List.take_append_drop k s]
    rw [List.drop_eq_getElem_cons hk, hb]
  have h1 := Txt.cut_at 44 (s.take k) (s.drop (k + 1)) hfree
  have h2 := Txt.cut_at 44 (Lib.itoa q.1) (Lib.itoa q.2) (Txt.itoa_free q.1).2
  rw [← e1] at h1
  rw [show Lib.itoa q.1 ++ 44 :: Lib.itoa q.2 = s from hq.symm, h1] at h2
  simp only [Prod.mk.injEq] at h2
  exact ⟨h2.1, h2.2.1⟩
theorem pt_nocomma {s : List UInt8} (h : (44 : UInt8) ∉ s) (p : Pt) (b : Bool) : PtRes s p b := fun q _ he => by
  exfalso
  apply h
  rw [he]
  unfold ptTxt
  simp
set_option maxRecDepth 100000 in
set_option maxHeartbeats 4000000 in
theorem ref_readPoint (w : World) (s : List UInt8) (hs : s.length ≤ 1000000) :
    Calls Tryz.prog 73 #[strV s] w fun e w' => ∃ p b, e = .returned (.tuple #[.agg #[.int .i64 p.1, .int .i64 p.2], .bool b]) ∧ PtRes s p b ∧ Kept Nob w w' := by
  obtain ⟨ts, hts⟩ : ∃ u, (⟨s.toArray⟩ : ByteArray) = u := ⟨_, rfl⟩
  have hsz : ts.size = s.length := by rw [← hts]; simp [ByteArray.size]
  have hget : ∀ k (hk : k < s.length) (hk2 : k < ts.size), ts[k]'hk2 = s[k] := fun k hk hk2 => by subst hts; simp [ByteArray.getElem_eq_getElem_data]
  have HG := Lib.hid hget
  have HTs := Lib.hid hts
  have HNum := fun (wx : World) (x : List UInt8) (hx : x.length ≤ 1000000) => Lib.hid (ref_num wx x hx)
  unfold strV at HNum ⊢
  rw [hts]
  clear hts hget
  go_enter Tryz.func73, Tryz.ntmps73
  go_wp2_with fail
  go_loopw [4] (fun i wr => ∃ k : Nat, k ≤ s.length ∧ i = .int .i64 k ∧ (44 : UInt8) ∉ s.take k ∧ wr.heap[w.heap.size]? = some (.cells #[.int .i64 0, .int .i64 0] 42 (0, 0)) ∧ Kept Nob w wr) (fun i _ => s.length - (intOf i).toNat)
  case atStart => exact ⟨0, by omega, rfl, by simp, Go.heap_alloc_new w _, Kept.alloc _ _ _⟩
  case round =>
    obtain ⟨k, hk, rfl, hfree, hb, hw⟩ := hrel
    have HF := Lib.hid hfree
    have HB := Lib.hid hb
    have HW := Lib.hid hw
    clear hfree hb hw
    have HS2 := fun (x y : Value) (W : World) (hb : W.heap[w.heap.size]? = some (.cells #[.int .i64 0, .int .i64 0] 42 (0, 0))) => Lib.hid (set2 x y hb)
    by_cases hlt : k < s.length
    · have hz : k < ts.size := by omega
      have gk := HG.out k hlt hz
      obtain ⟨c8, hc8⟩ : ∃ c : Nat, (ts[k]'hz).toNat = c := ⟨_, rfl⟩
      by_cases hb : s[k] = 44
      · have g32 : c8 = 44 := by rw [← hc8, gk, hb]; rfl
        subst g32
        have HCf := Lib.hid (fun (q : Pt) (hq : s = ptTxt q) => cut_first hlt hb HF.out hq)
        clear gk hb
        obtain ⟨xa, hxa⟩ : ∃ u, ts.extract 0 k = u := ⟨_, rfl⟩
        obtain ⟨xb, hxb⟩ : ∃ u, ts.extract (k + 1) s.length = u := ⟨_, rfl⟩
        have HA := fun (wx : World) => HNum wx (s.take k) (by simp; omega)
        have HB2 := fun (wx : World) => HNum wx (s.drop (k + 1)) (by simp; omega)
        have ea : (⟨(s.take k).toArray⟩ : ByteArray) = xa := by rw [← hxa, extract_drop HTs.out]; simp
        have eb : (⟨(s.drop (k + 1)).toArray⟩ : ByteArray) = xb := by rw [← hxb, extract_drop HTs.out, List.take_of_length_le (by simp)]
        rw [ea] at HA
        rw [eb] at HB2
        clear ea eb HNum
        go_wp2_with fail
        refine (HA wr).out.mono ?_
        rintro e w2 ⟨x, b1, rfl, hn1, hk2⟩
        have HW2 := Lib.hid (HW.out.then hk2)
        have HB2' := Lib.hid ((hk2.block w.heap.size (Array.getElem?_eq_some_iff.1 HB.out).1 (fun f => f)).trans HB.out)
        have HN1 := Lib.hid hn1
        clear hk2 hn1
        go_wp2_with fail
        refine (HB2 w2).out.mono ?_
        rintro e w3 ⟨y, b2, rfl, hn2, hk3⟩
        have HW3 := Lib.hid (HW2.out.then hk3)
        have HB3 := Lib.hid ((hk3.block w.heap.size (Array.getElem?_eq_some_iff.1 HB2'.out).1 (fun f => f)).trans HB2'.out)
        have HN2 := Lib.hid hn2
        clear hk3 hn2
        have hbo := HB3.out
        have c0 := cell_at hbo 0 _ rfl
        have c1 := cell_at hbo 1 _ rfl
        have f0 := frozen_at hbo 0
        have f1 := frozen_at hbo 1
        clear hbo
        have HE2 := HS2 (.int .i64 x) (.int .i64 y) w3 HB3.out
        have HKf : Hid (Kept Nob w ((w3.setCell ⟨w.heap.size, 0, none⟩ (.int .i64 x)).setCell ⟨w.heap.size, 1, none⟩ (.int .i64 y))) :=
          Lib.hid (HW3.out.from (Nat.le_refl _) (HE2.out.2.mono fun k _ (h : k = w.heap.size) => Nat.le_of_eq h.symm))
        have HR : Hid (PtRes s (x, y) (b1 && b2)) := Lib.hid (fun q hq he => by
          have h1 := HCf.out q he
          rw [ok_iff] at hq
          obtain ⟨rfl, rfl⟩ := HN1.out.2 q.1 (by omega) (by omega) h1.1
          obtain ⟨rfl, rfl⟩ := HN2.out.2 q.2 (by omega) (by omega) h1.2
          exact ⟨rfl, rfl⟩)
        clear HS2
        cases b1 <;> cases b2
        all_goals go_wp2_with fail
        all_goals exact bodyPost_cell2 (p := 2) (u := 3) (ty := 42) (g := w.heap.size) (by kernel_rfl) rfl HE2.out.1 Tryz.underlying42 rfl (by kernel_rfl) rfl ⟨(x, y), _, rfl, HR.out, HKf.out⟩
      · have g32 : c8 ≠ 44 := by
          rw [← hc8, gk]; intro h; exact hb (UInt8.toNat_inj.1 h)
        have HN : Hid ((44 : UInt8) ∉ s.take (k + 1)) := Lib.hid (by
          rw [List.take_succ_eq_append_getElem hlt, List.mem_append, List.mem_singleton]
          rintro (h | h)
          · exact HF.out h
          · exact hb h.symm)
        have e2 : ((c8 : Int) == 44) = false := by simp; omega
        clear gk hb
        go_wp2_with fail
        go_roundw
        case rel => exact ⟨k + 1, by omega, by go_num, HN.out, HB.out, HW.out⟩
        case measure => simp [intOf]; omega
    · obtain rfl : k = s.length := by omega
      have HR : Hid (PtRes s (0, 0) false) := Lib.hid (pt_nocomma (by have := HF.out; rwa [List.take_length] at this) _ _)
      have hbo := HB.out
      have c0 := cell_at hbo 0 _ rfl
      have c1 := cell_at hbo 1 _ rfl
      have f0 := frozen_at hbo 0
      have f1 := frozen_at hbo 1
      clear hbo
      have HE2 := HS2 (.int .i64 0) (.int .i64 0) wr HB.out
      have HKf : Hid (Kept Nob w ((wr.setCell ⟨w.heap.size, 0, none⟩ (.int .i64 0)).setCell ⟨w.heap.size, 1, none⟩ (.int .i64 0))) :=
        Lib.hid (HW.out.from (Nat.le_refl _) (HE2.out.2.mono fun k _ (h : k = w.heap.size) => Nat.le_of_eq h.symm))
      go_wp2_with fail
      exact bodyPost_cell2 (p := 2) (u := 3) (ty := 42) (g := w.heap.size) (by kernel_rfl) rfl HE2.out.1 Tryz.underlying42 rfl (by kernel_rfl) rfl ⟨(0, 0), _, rfl, HR.out, HKf.out⟩
end Go.Proofs.YthjiobmglebmdaaGreatDoor
