/- The log: read, Open. -/
import Derived.Test.YtcclbaphdblcfaaDoorPgWal5
import Derived.Laws.BytesArg
import Derived.Laws.IdiomStrings
namespace Go.Proofs.YtcclbaphdblcfaaDoor
open Go.RowKit

theorem read1_any (w : World) (n : Int) :
    Calls Tryd.prog 44 #[.int .u8 n] w fun e w' => e = .returned (.bool (n != 0)) ∧ w = w' := by
  go_enter Tryd.func44, Tryd.ntmps44
  go_wp2
  go_ret
  exact ⟨rfl, rfl⟩

theorem index_zero (w : World) (v : Value) (F : Nat → Prop) (hr : Reads w v Dsk.zeroSector F) :
    Calls Tryd.prog 61 #[v, .func (.func 44) #[] #[]] w fun e w' => e = .returned (.int .i64 (-1)) ∧ w = w' := by
  obtain ⟨a, c, rfl, -⟩ := hr.shape
  have hl : Dsk.zeroSector.length = 64 := rfl
  rw [hl] at hr ⊢
  have HR := Lib.hid hr
  clear hr hl
  go_enter Tryd.func61, Tryd.ntmps61
  go_wp2
  go_loop [8] (fun i => ∃ k : Nat, k ≤ 64 ∧ i = .int .i64 k) (fun i => 64 - (intOf i).toNat)
  case atStart => exact ⟨0, Nat.zero_le _, rfl⟩
  case round =>
    obtain ⟨k, hk, rfl⟩ := hrel
    by_cases hlt : k < 64
    · obtain ⟨b, o, x, rfl, hx, hc, -⟩ := HR.out.cell (i := k) (by simpa [Dsk.zeroSector] using hlt)
      obtain rfl : x = .int .u8 0 := by
        rw [Dsk.zeroSector, List.getElem?_replicate, if_pos hlt] at hx
        exact (Option.some.inj hx).symm
      clear hx
      go_wp2_with (go_at_call 44; refine (read1_any w 0).mono ?_; rintro e w' ⟨rfl, rfl⟩)
      go_round
      case rel => exact ⟨k + 1, by omega, by go_num⟩
      case measure => simp [intOf]; omega
    · go_wp2
      go_ret
      exact ⟨rfl, rfl⟩
theorem contains_zero (w : World) (v : Value) (F : Nat → Prop) (hr : Reads w v Dsk.zeroSector F) :
    Calls Tryd.prog 43 #[v, .func (.func 44) #[] #[]] w fun e w' => e = .returned (.bool false) ∧ w = w' := by
  have H := Lib.hid (index_zero w v F hr)
  clear hr
  go_enter Tryd.func43, Tryd.ntmps43
  go_wp2_with (go_at_call 61; refine H.out.mono ?_; rintro e w' ⟨rfl, rfl⟩)
  go_ret
  exact ⟨rfl, rfl⟩

set_option maxRecDepth 100000 in
set_option maxHeartbeats 4000000 in
theorem read_fresh (w : World) (b bd frm half : Nat) (d : Dsk) (F : Nat → Prop) (h : LogHead w b bd frm half) (hD : DiskAt w bd d F) (hf : frm < d.good.length) (hz : d.now.getD frm [] = Dsk.zeroSector) :
    Calls Tryd.prog 32 #[.pointer (some ⟨b, 0, none⟩)] w fun e w' => e = .returned (.bool true) ∧ Kept Nob w w' := by
  have HRd := Lib.hid (disk_read w.drew bd d F (hD.kept (Kept.drew Nob w) (fun _ _ f => f)) frm hf)
  rw [hz] at HRd
  have c0 := h.c0
  have c1 := h.c1
  clear h hD hf hz
  go_enter Tryd.func32, Tryd.ntmps32
  go_wp2_with fail
  go_region_held3 (fun w' => w'.cell? ⟨b, 0, none⟩ = some (.pointer (some ⟨bd, 0, none⟩)) ∧ w'.cell? ⟨b, 1, none⟩ = some (.int .i64 frm)) (first | (go_keep; done) | (go_split_ands; exact ⟨‹_›, ‹_›⟩))
    ((go_at_call 21; refine HRd.out.mono ?_; rintro e w3 ⟨b3, c3, rfl, ho3, hk3⟩; rw [show Dsk.zeroSector.length = 64 from rfl] at ho3 ⊢; have q1 := (hk3.cell (p := ⟨b, 0, none⟩) (cell_lt c0) (fun f => f)).trans c0; have q2 := (hk3.cell (p := ⟨b, 1, none⟩) (cell_lt c1) (fun f => f)).trans c1; have HO3 := Lib.hid ho3; have HK3 := Lib.hid hk3; clear ho3 hk3))
  obtain ⟨b5, o5, rfl, -, hc5, -, -⟩ := HO3.out.reads.some' (by simp [Dsk.zeroSector])
  have hc5' : 64 ≤ c3 := hc5
  have HX := Lib.hid HO3.out.reads
  have zc : ∀ i, i < 64 → w3.cell? ⟨b5, o5 + i, none⟩ = some (.int .u8 0) := fun i hi => by
    obtain ⟨b', o', x, he, hx, hc, -⟩ := HO3.out.reads.cell (i := i) (by simpa [Dsk.zeroSector] using hi)
    simp only [Option.some.injEq, Addr.mk.injEq, and_true] at he
    obtain ⟨rfl, rfl⟩ := he
    rw [Dsk.zeroSector, List.getElem?_replicate, if_pos hi] at hx
    rw [hc, ← Option.some.inj hx]
  have hcv : (convert 47 9 (.slice (some ⟨b5, o5, none⟩) 4 c3)).run Tryd.prog w3 = .ok (.string ⟨#[0, 0, 0, 0]⟩) w3 :=
    run_convert_bytes_back w3 _ _ _ ⟨b5, o5, none⟩ c3 [0, 0, 0, 0] Tryd.underlying47 Tryd.underlying5 Tryd.underlying9 (fun j hj => by
      rw [show (⟨b5, o5, none⟩ : Addr).add j = ⟨b5, o5 + j, none⟩ from by unfold Addr.add; split <;> simp_all, zc j (by simp at hj; omega)]
      have : j = 0 ∨ j = 1 ∨ j = 2 ∨ j = 3 := by simp at hj; omega
      rcases this with rfl | rfl | rfl | rfl <;> rfl)
  clear zc hc5
  have HCo := Lib.hid (fun w' q => contains_zero w' _ _ (HX.out.kept (w' := w') (G := Nob) q (fun _ _ f => f)))
  go_wp2_with (go_at_call 43; refine (HCo.out w3 (Kept.refl _ _)).mono ?_; rintro e w' ⟨rfl, rfl⟩)
  go_ret
  exact ⟨rfl, HK3.out.drewL⟩
end Go.Proofs.YtcclbaphdblcfaaDoor
