/- DiskPlays: the verifier's Sum of two more, small, same. -/
import Derived.Test.YthjjckpgjfjokaaDoorPgDoc9
import Derived.Test.YthjjckpgjfjokaaDoorPgDisk7
import Derived.Test.YthjjckpgjfjokaaDoorPgDisk9
import Derived.Test.YthjjckpgjfjokaaDoorPgIs
import Derived.Test.YthjjckpgjfjokaaDoorPgAlike
import Derived.Test.YthjjckpgjfjokaaDoorPgAwake10
import Derived.Test.YthjjckpgjfjokaaDoorPgCut
namespace Go.Proofs.YthjjckpgjfjokaaDoor
open Go.RowKit

/-- what Sum makes of a number and two more -/
def sum2 (n a b : Int) : Int :=
  if n > 1099511627776 ∨ a > 1099511627776 - n then 1099511627776
  else if n + a > 1099511627776 ∨ b > 1099511627776 - (n + a) then 1099511627776 else n + a + b

theorem sum_two (w : World) (n a b : Int) (g : Nat) (hn : 0 ≤ n) (hn2 : n ≤ 1000000) (ha : 0 ≤ a) (ha2 : a ≤ 9223372036854775807) (hb : 0 ≤ b) (hb2 : b ≤ 1000000) (h0 : w.cell? ⟨g, 0, none⟩ = some (.int .i64 a)) (h1 : w.cell? ⟨g, 1, none⟩ = some (.int .i64 b)) :
    Calls Tryd.prog 37 #[.int .i64 n, .slice (some ⟨g, 0, none⟩) 2 2] w fun e w' => e = .returned (.int .i64 (sum2 n a b)) ∧ w = w' := by
  by_cases c1 : a > 1099511627776 - n
  · have e : sum2 n a b = 1099511627776 := by unfold sum2; rw [if_pos (.inr c1)]
    rw [e]
    clear e
    go_enter Tryd.func37, Tryd.ntmps37
    go_wp2
    go_loop [0, 5] (fun s i => i = .int .i64 0 ∧ s = .int .i64 n) (fun _ i => 2 - (intOf i).toNat)
    case atStart => exact ⟨rfl, rfl⟩
    case round =>
      obtain ⟨rfl, rfl⟩ := hrel
      go_wp2
      go_ret
      exact ⟨rfl, rfl⟩
  · by_cases c2 : b > 1099511627776 - (n + a)
    · have e : sum2 n a b = 1099511627776 := by unfold sum2; rw [if_neg (by omega), if_pos (.inr c2)]
      rw [e]
      clear e
      go_enter Tryd.func37, Tryd.ntmps37
      go_wp2
      go_loop [0, 5] (fun s i => (i = .int .i64 0 ∧ s = .int .i64 n) ∨ (i = .int .i64 1 ∧ s = .int .i64 (n + a))) (fun _ i => 2 - (intOf i).toNat)
      case atStart => exact .inl ⟨rfl, rfl⟩
      case round =>
        rcases hrel with ⟨rfl, rfl⟩ | ⟨rfl, rfl⟩
        · go_wp2
          go_round
          case rel => exact .inr ⟨rfl, rfl⟩
          case measure => simp [intOf]
        · go_wp2
          go_ret
          exact ⟨rfl, rfl⟩
    · have e : sum2 n a b = n + a + b := by unfold sum2; rw [if_neg (by omega), if_neg (by omega)]
      rw [e]
      clear e
      go_enter Tryd.func37, Tryd.ntmps37
      go_wp2
      go_loop [0, 5] (fun s i => (i = .int .i64 0 ∧ s = .int .i64 n) ∨ (i = .int .i64 1 ∧ s = .int .i64 (n + a)) ∨ (i = .int .i64 2 ∧ s = .int .i64 (n + a + b))) (fun _ i => 2 - (intOf i).toNat)
      case atStart => exact .inl ⟨rfl, rfl⟩
      case round =>
        rcases hrel with ⟨rfl, rfl⟩ | ⟨rfl, rfl⟩ | ⟨rfl, rfl⟩
        · go_wp2
          go_round
          case rel => exact .inr (.inl ⟨rfl, rfl⟩)
          case measure => simp [intOf]
        · go_wp2
          go_round
          case rel => exact .inr (.inr ⟨rfl, rfl⟩)
          case measure => simp [intOf]
        · go_wp2
          go_ret
          exact ⟨rfl, rfl⟩

/-- one step of DiskPlays -/
structure DStep where
  kind : Int
  place : Int
  n : Int
  keep : List Bool
/-- its cells at an address -/
structure StepAt (w : World) (b o : Nat) (s : DStep) (G : Nat → Prop) : Prop where
  c0 : w.cell? ⟨b, o, none⟩ = some (.int .i64 s.kind)
  c1 : w.cell? ⟨b, o + 1, none⟩ = some (.int .i64 s.place)
  c2 : w.cell? ⟨b, o + 2, none⟩ = some (.int .i64 s.n)
  c3 : ∃ a c, w.cell? ⟨b, o + 3, none⟩ = some (.slice a s.keep.length c) ∧ Reads w (.slice a s.keep.length c) (s.keep.map Value.bool) G
  most : s.keep.length ≤ 9223372036854775807
  nIn : -9223372036854775808 ≤ s.n ∧ s.n ≤ 9223372036854775807
  pIn : -9223372036854775808 ≤ s.place ∧ s.place ≤ 9223372036854775807
/-- the slice reads as these steps -/
def StepsAt (w : World) (v : Value) (l : List DStep) (G : Nat → Prop) : Prop :=
  (l = [] ∧ ∃ a cap, v = .slice a 0 cap) ∨ ∃ b o cap, v = .slice (some ⟨b, o, none⟩) l.length cap ∧ l.length ≤ cap ∧ l.length ≤ 9223372036854775807 ∧ G b ∧ ∀ i s, l[i]? = some s → StepAt w b (o + i * 4) s G
theorem StepAt.kept {w w' : World} {b o : Nat} {s : DStep} {G F : Nat → Prop} (h : StepAt w b o s G) (hb : G b) (hk : Kept F w w') (hd : ∀ k, G k → ¬ F k) : StepAt w' b o s G := by
  obtain ⟨a, c, h3, h4⟩ := h.c3
  exact ⟨(hk.cell (cell_lt h.c0) (hd b hb)).trans h.c0, (hk.cell (cell_lt h.c1) (hd b hb)).trans h.c1, (hk.cell (cell_lt h.c2) (hd b hb)).trans h.c2, ⟨a, c, (hk.cell (cell_lt h3) (hd b hb)).trans h3, h4.kept hk hd⟩, h.most, h.nIn, h.pIn⟩
theorem StepsAt.kept {w w' : World} {v : Value} {l : List DStep} {G F : Nat → Prop} (h : StepsAt w v l G) (hk : Kept F w w') (hd : ∀ k, G k → ¬ F k) : StepsAt w' v l G := by
  rcases h with h | ⟨b, o, cap, h1, h2, h3, h4, h5⟩
  · exact .inl h
  · exact .inr ⟨b, o, cap, h1, h2, h3, h4, fun i s hi => (h5 i s hi).kept h4 hk hd⟩
theorem StepsAt.shape {w : World} {v : Value} {l : List DStep} {G : Nat → Prop} (h : StepsAt w v l G) : ∃ a cap, v = .slice a l.length cap := by
  rcases h with ⟨rfl, a, cap, h⟩ | ⟨b, o, cap, h, _⟩
  · exact ⟨a, cap, h⟩
  · exact ⟨_, cap, h⟩
theorem StepsAt.at {w : World} {a : Option Addr} {n cap : Nat} {l : List DStep} {G : Nat → Prop} (h : StepsAt w (.slice a n cap) l G) {i : Nat} (hi : i < l.length) : ∃ b o, a = some ⟨b, o, none⟩ ∧ G b ∧ StepAt w b (o + i * 4) l[i] G := by
  rcases h with ⟨rfl, _⟩ | ⟨b, o, cap', h1, h2, h3, h4, h5⟩
  · simp at hi
  · simp only [Value.slice.injEq] at h1
    exact ⟨b, o, h1.1, h4, h5 i _ (by simp [hi])⟩

/-- what 'small' keeps -/
def SmallRel (w : World) (l : List DStep) (k : Nat) (s : Int) (wr : World) : Prop := (k : Int) ≤ s ∧ s ≤ 2000 ∧ (∀ i x, i < k → l[i]? = some x → x.keep.length ≤ 2000) ∧ Kept Nob w wr
/-- behind 'small' -/
def RetSmall (w : World) (l : List DStep) (en : Ending) (w' : World) : Prop := ∃ b, en = .returned (.bool b) ∧ (b = true → l.length ≤ 200 ∧ ∀ x ∈ l, x.keep.length ≤ 2000) ∧ Kept Nob w w'

theorem small_any (w : World) (v : Value) (l : List DStep) (G : Nat → Prop) (h : StepsAt w v l G) :
    Calls Tryd.prog 16 #[v] w (RetSmall w l) := by
  obtain ⟨a, cap, rfl⟩ := h.shape
  have hl : l.length ≤ 9223372036854775807 := by
    rcases h with ⟨rfl, _⟩ | ⟨_, _, _, _, _, h3, _⟩
    · simp
    · exact h3
  have HS := Lib.hid h
  clear h
  have HR0 : Hid (SmallRel w l 0 0 w) := ⟨by simp, by omega, fun i x hi => by omega, Kept.refl _ _⟩
  go_enter Tryd.func16, Tryd.ntmps16
  go_wp2
  go_loopw [3, 4] (fun n i wr => ∃ k : Nat, ∃ s : Int, k ≤ l.length ∧ i = .int .i64 k ∧ n = .int .i64 s ∧ SmallRel w l k s wr) (fun _ i _ => l.length - (intOf i).toNat)
  case atStart => exact ⟨0, 0, Nat.zero_le _, rfl, rfl, HR0.out⟩
  case round =>
    clear HR0
    obtain ⟨k, s, hk, rfl, rfl, hks, hs, hall, hkw⟩ := hrel
    have HA := Lib.hid hall
    have HK := Lib.hid hkw
    have hs1 := (HS.out.kept hkw (fun _ _ f => f))
    clear hall hkw
    by_cases hlt : k < l.length
    · obtain ⟨b, o, rfl, hG, hat⟩ := hs1.at hlt
      obtain ⟨ka, kc, c3, -⟩ := hat.c3
      have hm := hat.most
      have HX := Lib.hid (show ∀ x, l[k]? = some x → x.keep.length = l[k].keep.length from fun x hx => by rw [List.getElem?_eq_getElem hlt] at hx; rw [Option.some.inj hx])
      clear hs1 hat hG
      generalize l[k].keep.length = m at *
      go_wp2_with fail
      refine (sum_two _ s m 1 wr.heap.size (by omega) (by omega) (by omega) (by omega) (by omega) (by omega) (by simp) (by simp)).mono ?_
      rintro e w' ⟨rfl, rfl⟩
      have hka := Kept.alloc Nob wr (.cells #[.int .i64 (m : Int), .int .i64 1] 3)
      by_cases hbig : 2000 < sum2 s m 1
      · generalize sum2 s m 1 = q at *
        go_wp2_with fail
        go_ret
        exact ⟨false, rfl, (fun h => by cases h), HK.out.then hka⟩
      · have e : sum2 s m 1 = s + m + 1 := by
          revert hbig; unfold sum2
          intro hbig
          split
          · rename_i hc; rw [if_pos hc] at hbig; omega
          · rename_i hc
            rw [if_neg hc] at hbig
            split
            · rename_i hd; rw [if_pos hd] at hbig; omega
            · rfl
        rw [e] at hbig ⊢
        clear e
        have HN : Hid (SmallRel w l (k + 1) (s + m + 1) (wr.alloc (.cells #[.int .i64 (m : Int), .int .i64 1] 3))) := by
          refine ⟨by omega, by omega, fun i x hi hx => ?_, HK.out.then hka⟩
          by_cases hik : i = k
          · subst hik; rw [HX.out x hx]; omega
          · exact HA.out i x (by omega) hx
        clear hka
        go_wp2_with fail
        go_roundw
        case rel => exact ⟨k + 1, s + m + 1, by omega, by go_num, rfl, HN.out⟩
        case measure => simp [intOf]; omega
    · obtain rfl : k = l.length := by omega
      clear hs1
      by_cases h200 : l.length ≤ 200
      all_goals
        go_wp2_with fail
        go_ret
      · exact ⟨_, rfl, fun _ => ⟨h200, fun x hx => by
          obtain ⟨i, hi, rfl⟩ := List.getElem_of_mem hx
          exact HA.out i _ hi (List.getElem?_eq_getElem hi)⟩, HK.out⟩
      · exact ⟨_, rfl, (fun h => by simp at h; omega), HK.out⟩

/-- same: both read the same -/
theorem same_any (w : World) (b : Nat) (d : Dsk) (F : Nat → Prop) (hD : DiskAt w b d F) (m : Nat) (R : Nat → Prop) (hM : DocAt w m d R) :
    Calls Tryd.prog 27 #[.pointer (some ⟨b, 0, none⟩), .pointer (some ⟨m, 0, none⟩)] w (RetTrue w) := by
  have HL := Lib.hid (fun n => disk_len (w.drewN n) b d F (hD.kept (Kept.drewN Nob w n) (fun _ _ f => f)))
  have HO := Lib.hid (fun n => disk_ops (w.drewN n) b d F (hD.kept (Kept.drewN Nob w n) (fun _ _ f => f)))
  have HF := Lib.hid (fun n => disk_off (w.drewN n) b d F (hD.kept (Kept.drewN Nob w n) (fun _ _ f => f)))
  have HD := Lib.hid hD
  have HM := Lib.hid hM
  have hw := hD.wf
  have hm := hw.most
  obtain ⟨gv, av, nv, gs, ns, left, hb, hR, h1, -, -, h4, -, -, -, -, -, -⟩ := hM
  obtain ⟨ga, gc, rfl, -⟩ := h1.shape
  rw [h4.1] at hb
  have c0 := cell_at hb 0 _ rfl
  have c3 := cell_at hb 3 _ rfl
  have c6 := cell_at hb 6 _ rfl
  have hlt := cell_lt c0
  have HC0 := Lib.hid c0
  have HW := Lib.hid hw
  clear hb hR h1 h4 hw hD
  go_enter Tryd.func27, Tryd.ntmps27
  go_wp2_with fail
  go_quiet ((first | (go_at_call 31; exact Calls.quiet_of_same ((HL.out _).mono fun e w' h => ⟨h.1, h.2.symm⟩)) | (go_at_call 15; exact Calls.quiet_of_same ((HO.out _).mono fun e w' h => ⟨h.1, h.2.symm⟩)) | (go_at_call 11; exact Calls.quiet_of_same ((HF.out _).mono fun e w' h => ⟨h.1, h.2.symm⟩))))
  go_wp2_with fail
  have HR0 : Hid (Kept Nob w (w.drewN nq)) := Kept.drewN _ _ _
  go_loopw [5] (fun i wr => ∃ k : Nat, k ≤ d.good.length ∧ i = .int .i64 k ∧ Kept Nob w wr) (fun i _ => d.good.length - (intOf i).toNat)
  case atStart => exact ⟨0, Nat.zero_le _, rfl, HR0.out⟩
  case round =>
    clear HR0
    obtain ⟨k, hk, rfl, hkw⟩ := hrel
    have HK := Lib.hid hkw
    have d0 := hkw.cell (p := ⟨m, 0, none⟩) hlt (fun f => f) |>.trans HC0.out
    clear hkw c0 c3 c6
    by_cases hltk : k < d.good.length
    · have hX := Dsk.Sectors.getD HW.out.now (i := k) (by rw [HW.out.len]; exact hltk)
      have HRd := Lib.hid (disk_read wr b d F (HD.out.kept HK.out (fun _ _ f => f)) k hltk)
      have HX := Lib.hid hX
      have HXL := Lib.hid hX.1
      have HMr := fun w2 q => Lib.hid (doc_read w2 m d R (HM.out.kept q (fun f => f) (fun _ _ f => f)) k hltk)
      have HMM := Lib.hid HMr
      clear hX HMr
      generalize d.now.getD k [] = x at *
      go_wp2_with fail
      refine HRd.out.mono ?_
      rintro e w1 ⟨b1, cap1, rfl, ho1, hk1⟩
      rw [HXL.out] at ho1 ⊢
      have HO1 := Lib.hid ho1
      have HK1 := Lib.hid (HK.out.then hk1)
      have hk1s := hk1.size
      clear ho1 hk1 d0
      go_wp2_with fail
      refine (HMM.out w1 HK1.out).out.mono ?_
      rintro e w2 ⟨b2, c2, rfl, hr2, hk2⟩
      have HR2 := Lib.hid hr2
      have HK2 := Lib.hid (HK1.out.then hk2)
      have HO2 := Lib.hid (HO1.out.kept hk2 (fun _ _ f => f))
      clear hr2 hk2
      have HBy := Lib.hid (bytes_rows w2 _ _ x x _ _ HO2.out.reads HR2.out HX.out.2 HX.out.2 (by have := HXL.out; omega) (by have := HXL.out; omega))
      go_wp2_with (go_at_call 13; refine HBy.out.mono ?_; rintro e w5 ⟨r5, n5, rfl, hr5, rfl⟩; obtain rfl : r5 = true := hr5.2 rfl; clear hr5)
      have HK5 := Lib.hid (HK2.out.then (Kept.drewN Nob _ n5))
      go_roundw
      case rel => exact ⟨k + 1, by omega, by go_num, HK5.out⟩
      case measure => simp [intOf]; omega
    · go_wp2_with fail
      go_ret
      exact ⟨rfl, HK.out⟩
end Go.Proofs.YthjjckpgjfjokaaDoor
