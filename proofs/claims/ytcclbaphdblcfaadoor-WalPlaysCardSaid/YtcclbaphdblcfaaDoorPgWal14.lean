/- The log: Grow of nothing, Concat of two. -/
import Derived.Test.YtcclbaphdblcfaaDoorPgWal13
namespace Go.Proofs.YtcclbaphdblcfaaDoor
open Go.RowKit

theorem Own.cut {w : World} {e : TypeId} {b : Option Addr} {n c : Nat} {xs : List Value} {F : Nat → Prop} (h : Own w e (.slice b n c) xs F) : Own w e (.slice b 0 c) [] F := by
  rcases h.shape with ⟨hv, _⟩ | ⟨g, cap, cur, hv, hF, hlt, hc, hm, hg, hs, ht⟩
  · simp only [Value.slice.injEq] at hv
    obtain ⟨rfl, rfl, rfl⟩ := hv
    exact Own.nil _ _ _
  · simp only [Value.slice.injEq] at hv
    obtain ⟨rfl, rfl, rfl⟩ := hv
    exact ⟨⟨by simp, .inr ⟨g, c, cur, by simp, Nat.zero_le _, hg, Nat.zero_le _, hm, by simpa using hs, by simp⟩⟩, fun x hx => by simp [Value.ownBlock] at hx; subst hx; exact hF⟩

set_option maxRecDepth 100000 in
set_option maxHeartbeats 1000000 in
theorem grow_nil (w : World) (n : Nat) (hn : n ≤ 1000000) :
    Calls Tryd.prog 63 #[.slice none 0 0, .int .i64 n] w fun e w' => ∃ b c, e = .returned (.slice b 0 c) ∧ Own w' 47 (.slice b 0 c) [] (From w.heap.size) ∧ Kept Nob w w' := by
  by_cases h0 : n = 0
  · subst h0
    go_enter Tryd.func63, Tryd.ntmps63
    go_wp2
    go_ret
    exact ⟨none, 0, rfl, Own.nil _ _ _, Kept.refl _ _⟩
  · have hp : 0 < n := by omega
    go_enter Tryd.func63, Tryd.ntmps63
    go_wp2_with (at_builtin; refine wpList_append0_pg rfl _ _ 34 3 rfl tRows Tryd.underlying3 rfl (.slice none 0 0) [] (From w.heap.size) n rfl rfl (Own.nil _ _ _) (by simp; omega) ?_; intro b3 c3 w3 ho3 hk3; have HO3 := Lib.hid ho3; have HK3 := Lib.hid hk3; clear ho3 hk3)
    go_ret
    refine ⟨b3, c3, rfl, (HO3.out.cut).mono fun x _ hx => ?_, HK3.out.mono fun x _ hx => ?_⟩
    · rcases hx with hx | hx
      · simp [Value.ownBlock] at hx
      · exact hx
    · simp [Value.ownBlock] at hx

/-- inside Concat: j of the two are put behind each other -/
def CatRel (w : World) (vs : List Value) (v : Value) (wr : World) : Prop := ∃ b c, v = .slice b vs.length c ∧ Own wr 47 (.slice b vs.length c) vs (From w.heap.size) ∧ Kept Nob w wr

set_option maxRecDepth 100000 in
set_option maxHeartbeats 4000000 in
theorem concat_two (w : World) (g : Nat) (v1 v2 : Value) (vs1 vs2 : List Value) (F : Nat → Prop) (h1 : w.cell? ⟨g, 0, none⟩ = some v1) (h2 : w.cell? ⟨g, 1, none⟩ = some v2) (r1 : Reads w v1 vs1 F) (r2 : Reads w v2 vs2 F) (o1 : ∀ u ∈ vs1, u.oneCell' = true) (o2 : ∀ u ∈ vs2, u.oneCell' = true)
    (hn : vs1.length + vs2.length ≤ 1000000) (hF : ∀ x, F x → x < w.heap.size) :
    Calls Tryd.prog 50 #[.slice (some ⟨g, 0, none⟩) 2 2] w fun e w' => ∃ b c, e = .returned (.slice b (vs1 ++ vs2).length c) ∧ Own w' 47 (.slice b (vs1 ++ vs2).length c) (vs1 ++ vs2) (From w.heap.size) ∧ Kept Nob w w' := by
  obtain ⟨a1, c1, rfl, -⟩ := r1.shape
  obtain ⟨a2, c2, rfl, -⟩ := r2.shape
  have R1 := Lib.hid r1
  have R2 := Lib.hid r2
  have O1 := Lib.hid o1
  have O2 := Lib.hid o2
  have H1 := Lib.hid h1
  have H2 := Lib.hid h2
  have hgl := cell_lt h1
  have HG := Lib.hid (fun n q => grow_nil w n q)
  have HFF := Lib.hid hF
  clear r1 r2 o1 o2 hF
  go_enter Tryd.func50, Tryd.ntmps50
  go_wp2
  go_loop [3, 11] (fun s i => (i = .int .i64 0 ∧ s = .int .i64 0) ∨ (i = .int .i64 1 ∧ s = .int .i64 vs1.length) ∨ (i = .int .i64 2 ∧ s = .int .i64 ((vs1.length : Int) + (vs2.length : Int)))) (fun _ i => 2 - (intOf i).toNat)
  case atStart => exact .inl ⟨rfl, rfl⟩
  case round =>
    rcases hrel with ⟨rfl, rfl⟩ | ⟨rfl, rfl⟩ | ⟨rfl, rfl⟩
    · go_wp2
      go_round
      case rel => exact .inr (.inl ⟨rfl, rfl⟩)
      case measure => simp [intOf]
    · go_wp2
      go_round
      case rel => exact .inr (.inr ⟨rfl, rfl⟩)
      case measure => simp [intOf]
    · have HGr := Lib.hid (show Calls Tryd.prog 63 #[.slice none 0 0, .int .i64 ((vs1.length : Int) + (vs2.length : Int))] w fun e w' => ∃ b c, e = .returned (.slice b 0 c) ∧ Own w' 47 (.slice b 0 c) [] (From w.heap.size) ∧ Kept Nob w w' from by have := HG.out (vs1.length + vs2.length) hn; simpa using this)
      go_wp2_with (go_at_call 63; refine HGr.out.mono ?_; rintro e w3 ⟨b3, c3, rfl, ho3, hk3⟩; have HO3 := Lib.hid ho3; have HK3 := Lib.hid hk3; clear ho3 hk3)
      have HR0 : Hid (CatRel w [] (.slice b3 0 c3) w3) := ⟨b3, c3, rfl, HO3.out, HK3.out⟩
      clear h1 h2 HGr
      go_loopw [6, 27] (fun v i wr => (i = .int .i64 0 ∧ CatRel w [] v wr) ∨ (i = .int .i64 1 ∧ CatRel w vs1 v wr) ∨ (i = .int .i64 2 ∧ CatRel w (vs1 ++ vs2) v wr)) (fun _ i _ => 2 - (intOf i).toNat)
      case atStart => exact .inl ⟨rfl, HR0.out⟩
      case round =>
        clear HR0
        rcases hrel with ⟨rfl, b, c, rfl, ho, hk⟩ | ⟨rfl, b, c, rfl, ho, hk⟩ | ⟨rfl, b, c, rfl, ho, hk⟩
        · have d0 := (hk.cell hgl (fun f => f)).trans H1.out
          have HO := Lib.hid ho
          have HK := Lib.hid hk
          have HRr := Lib.hid (R1.out.kept hk (fun _ _ f => f))
          clear ho hk
          simp only [List.length_nil] at HO ⊢
          go_wp2_with (at_builtin; refine wpList_append_pg rfl _ _ 34 rfl tRows (.slice b 0 c) (.slice a1 vs1.length c1) [] vs1 _ _ rfl rfl HO.out HRr.out O1.out (by simp; omega) ?_; intro b4 c4 w4 ho4 hk4 _; have HO4 := Lib.hid ho4; have HK4 := Lib.hid hk4; clear ho4 hk4)
          have HN : Hid (CatRel w vs1 (.slice b4 vs1.length c4) w4) := ⟨b4, c4, rfl, by
            have h := HO4.out.mono (G := From w.heap.size) (fun x _ hx => by
              rcases hx with hx | hx
              · exact HO.out.2 x hx
              · exact Nat.le_trans HK.out.size hx)
            simpa using h, HK.out.from (Nat.le_refl _) (HK4.out.mono fun x _ hx => HO.out.2 x hx)⟩
          go_roundw
          case rel => exact .inr (.inl ⟨rfl, HN.out⟩)
          case measure => simp [intOf]
        · have d0 := (hk.cell hgl (fun f => f)).trans H2.out
          have HO := Lib.hid ho
          have HK := Lib.hid hk
          have HRr := Lib.hid (R2.out.kept hk (fun _ _ f => f))
          clear ho hk
          go_wp2_with (at_builtin; refine wpList_append_pg rfl _ _ 34 rfl tRows (.slice b vs1.length c) (.slice a2 vs2.length c2) vs1 vs2 _ _ rfl rfl HO.out HRr.out O2.out (by omega) ?_; intro b4 c4 w4 ho4 hk4 _; have HO4 := Lib.hid ho4; have HK4 := Lib.hid hk4; clear ho4 hk4)
          have HN : Hid (CatRel w (vs1 ++ vs2) (.slice b4 (vs1.length + vs2.length) c4) w4) := ⟨b4, c4, by simp, by
            have h := HO4.out.mono (G := From w.heap.size) (fun x _ hx => by
              rcases hx with hx | hx
              · exact HO.out.2 x hx
              · exact Nat.le_trans HK.out.size hx)
            simpa using h, HK.out.from (Nat.le_refl _) (HK4.out.mono fun x _ hx => HO.out.2 x hx)⟩
          go_roundw
          case rel => exact .inr (.inr ⟨rfl, HN.out⟩)
          case measure => simp [intOf]
        · have HO := Lib.hid ho
          have HK := Lib.hid hk
          clear ho hk
          rw [List.length_append] at HO ⊢
          go_wp2
          go_ret
          exact ⟨b, c, by rw [List.length_append]; rfl, by rw [List.length_append]; exact HO.out, HK.out⟩
end Go.Proofs.YtcclbaphdblcfaaDoor
