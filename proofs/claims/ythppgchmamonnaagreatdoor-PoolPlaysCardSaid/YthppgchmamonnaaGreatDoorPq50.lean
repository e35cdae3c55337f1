/- PoolPlays: a step of any kind, and the law. -/
import Derived.Test.YthppgchmamonnaaGreatDoorPq18
import Derived.Test.YthppgchmamonnaaGreatDoorPq41
import Derived.Test.YthppgchmamonnaaGreatDoorPq42
import Derived.Test.YthppgchmamonnaaGreatDoorPq43
import Derived.Test.YthppgchmamonnaaGreatDoorPq44
import Derived.Test.YthppgchmamonnaaGreatDoorPq46
import Derived.Test.YthppgchmamonnaaGreatDoorPq48
import Derived.Test.YthppgchmamonnaaGreatDoorPq49
namespace Go.Proofs.YthppgchmamonnaaGreatDoor
open Go.RowKit
theorem law_does (w0 w : World) (wb pages room sect n : Nat) (L : Lw w0 w wb pages room sect n) (hT : Typed w0) (hn : n ≤ 1000) (hok : 1 ≤ pages ∧ pages ≤ sect / 8 ∧ 1 ≤ room ∧ room ≤ 100) (kd pg i : Int) (yes : Bool)
    (hp : -9223372036854775808 ≤ pg ∧ pg ≤ 9223372036854775807) (hi : -9223372036854775808 ≤ i ∧ i ≤ 9223372036854775807) :
    Calls Tryz.prog 28 #[.pointer (some ⟨wb, 0, none⟩), stepV kd pg i yes, .int .i64 pages, .int .i64 room] w (RetLw w0 w wb pages room sect (n + 1)) := by
  obtain ⟨bd, b, mb, md, m, t, ns, x, y, z, Z, Z', X, D, hw, hr, hZ, hX, ho, hwb, htn⟩ := L
  have hZb : ∀ k, (Z k ∨ Z' k) → k ≠ wb := fun k hk => (hZ k hk).1
  have hd : ∀ (e : Ending) (w' : World), RetDoes w0 w bd b mb md m pages room sect n t Z Z' e w' → RetLw w0 w wb pages room sect (n + 1) e w' := fun e w' h => h.lw hw D hr hZ hX ho hwb htn
  by_cases k1 : kd = 1
  · subst k1
    exact does_pin w0 w wb bd b mb md m pages room sect n t Z Z' x y z D hZb hw pg i yes hT hn ns X hr hZ hX ho hwb htn
  by_cases k2 : kd = 2
  · subst k2
    exact (does_unpin w0 w wb bd b mb md m pages room sect n t Z Z' x y z D hZb hw pg i yes hT hn hp.1 hp.2).mono hd
  by_cases k3 : kd = 3
  · subst k3
    exact (does_log w0 w wb bd b mb md m pages room sect n t Z Z' x y z D hZb hw pg i yes).mono hd
  by_cases k4 : kd = 4
  · subst k4
    exact (does_flush w0 w wb bd b mb md m pages room sect n t Z Z' x y z D hZb hw pg i yes hT hn).mono hd
  by_cases k5 : kd = 5
  · subst k5
    exact (does_insert w0 w wb bd b mb md m pages room sect n t Z Z' x y z D hZb hw pg i yes hT hn ns X hr hZ ho htn).mono hd
  by_cases k6 : kd = 6
  · subst k6
    exact (does_cut w0 w wb bd b mb md m pages room sect n t Z Z' x y z D hZb hw pg i yes hi.1 hi.2).mono hd
  by_cases k7 : kd = 7
  · subst k7
    exact does_crash w0 w wb bd b mb md m pages room sect n t Z Z' x y z D hZb hw pg i yes hT hok hwb
  exact (does_none w0 w wb bd b mb md m pages room sect n t Z Z' D kd pg i yes (by omega)).mono hd
theorem Lw.same {w0 w : World} {wb pages room sect n : Nat} (L : Lw w0 w wb pages room sect n) : Calls Tryz.prog 29 #[.pointer (some ⟨wb, 0, none⟩)] w (RetTrue w) := by
  obtain ⟨bd, b, mb, md, m, t, ns, x, y, z, Z, Z', X, D, hw, -⟩ := L
  exact law_same w0 w wb bd b mb md m pages room sect n t Z Z' x y z D hw
theorem Lw.pool {w0 w : World} {wb pages room sect n : Nat} (L : Lw w0 w wb pages room sect n) : ∃ b, w.cell? ⟨wb, 1, none⟩ = some (.pointer (some ⟨b, 0, none⟩)) := by
  obtain ⟨bd, b, mb, md, m, t, ns, x, y, z, Z, Z', X, D, hw, -⟩ := L
  exact ⟨b, cell_at hw 1 _ rfl⟩
theorem Kept.off {w wr w' : World} (h : Kept Nob w wr) (k : Kept (From w.heap.size) wr w') : Kept Nob w w' :=
  h.trans k fun _ hx f => absurd hx (Nat.not_lt.2 f)
set_option maxRecDepth 100000 in
set_option maxHeartbeats 8000000 in
theorem pool_plays_main (w : World) (n : Nat) (pages room : Int) (v : Value) (l : List PStep) (h : PStepsAt w v l (fun j => j < w.heap.size)) (h1 : 1 ≤ n) (h2 : n ≤ 200) (hl : l.length ≤ 120) (hT : Typed w) :
    Calls Tryz.prog 8 #[.int .i64 n, .int .i64 pages, .int .i64 room, v] w (RetTrue w) := by
  have HT := Lib.hid hT
  have HS := Lib.hid h
  obtain ⟨-, a, cap, rfl⟩ := h.shape
  have b1 : decide (120 < (l.length : Int)) = false := decide_eq_false (by omega)
  have b2 : decide ((n : Int) < 1) = false := decide_eq_false (by omega)
  have b3 : decide (200 < (n : Int)) = false := decide_eq_false (by omega)
  have HF := Lib.hid (law_fresh w n h1 (by omega) pages room hT)
  clear h hT h1 h2
  go_enter Tryz.func8, Tryz.ntmps8
  go_wp2_with fail
  refine HF.out.mono ?_
  rintro e w1 ⟨wb, bd, md, rfl, hwb, hk1, hor⟩
  have HK1 := Lib.hid hk1
  clear HF hk1
  rcases hor with hb | ⟨pg, rm, b, mb, m, Z, Z', rfl, rfl, hok, hb, hD, hZ⟩
  · have c1 : w1.cell? ⟨wb, 1, none⟩ = some (.pointer none) := cell_at hb 1 _ rfl
    clear hb
    go_wp2_with (go_at_call 9; (with_reducible refine (awake12 _ (HT.out.kept HK1.out (fun f => f))).mono ?_); rintro e w6 ⟨rfl, hk6⟩; have HK6 := Lib.hid (HK1.out.then hk6); clear hk6)
    go_ret
    exact ⟨rfl, HK6.out⟩
  · have c1 : w1.cell? ⟨wb, 1, none⟩ = some (.pointer (some ⟨b, 0, none⟩)) := cell_at hb 1 _ rfl
    have HL : Hid (Lw w w1 wb pg rm n 0) := Lib.hid ⟨_, _, _, _, _, [], [], _, _, _, Z, Z', Nob, hD, hb, ToldAt.nil w1, fun k hk => ⟨hZ k hk, fun f => f⟩, fun f => f, fun k f => f.elim, hwb, Nat.le_refl _⟩
    have HOk := Lib.hid hok
    clear hb hD hZ hok hwb
    go_wp2_with fail
    clear c1
    go_loopw [11] (fun i wr => ∃ k : Nat, k ≤ l.length ∧ i = .int .i64 k ∧ Lw w wr wb pg rm n k ∧ Kept Nob w wr) (fun i _ => l.length - (intOf i).toNat)
    case atStart => exact ⟨0, Nat.zero_le _, rfl, HL.out, HK1.out⟩
    case round =>
      clear HL HK1
      obtain ⟨k, hk, rfl, hL, hkr⟩ := hrel
      have HL := Lib.hid hL
      have HK := Lib.hid hkr
      clear hL hkr
      by_cases hlt : k < l.length
      · obtain ⟨bl, ol, rfl, hbl, hat⟩ := (HS.out.kept HK.out (fun _ _ f => f)).at hlt
        have c0 := hat.c0
        have c1 := hat.c1
        have c2 := hat.c2
        have c3 := hat.c3
        have HDo := Lib.hid (law_does w wr wb pg rm n k HL.out HT.out (by omega) HOk.out l[k].kind l[k].page l[k].n l[k].yes hat.pIn hat.nIn)
        unfold stepV at HDo
        clear hat hbl
        generalize l[k].kind = kd at *
        generalize l[k].page = pgs at *
        generalize l[k].n = ni at *
        generalize l[k].yes = ye at *
        go_wp2_with fail
        refine HDo.out.mono ?_
        rintro e w2 ⟨rfl, hL2, hk2⟩
        obtain ⟨b2, d1⟩ := hL2.pool
        have HSa := Lib.hid hL2.same
        have HL2 := Lib.hid hL2
        have HK2 := Lib.hid (HK.out.off hk2)
        clear hL2 hk2 c0 c1 c2 c3 HDo HL HK
        go_wp2_with (go_at_call 29; (with_reducible refine HSa.out.mono ?_); rintro e w3 ⟨rfl, hk3⟩; have HK3 := Lib.hid hk3; clear hk3)
        have HL3 := Lib.hid (HL2.out.nob HK3.out)
        have HKn := Lib.hid (HK2.out.then HK3.out)
        go_roundw
        case rel => exact ⟨k + 1, by omega, by go_num, HL3.out, HKn.out⟩
        case measure => simp [intOf]; omega
      · obtain rfl : k = l.length := by omega
        go_wp2_with (go_at_call 9; (with_reducible refine (awake12 _ (HT.out.kept HK.out (fun f => f))).mono ?_); rintro e w6 ⟨rfl, hk6⟩; have HK6 := Lib.hid (HK.out.then hk6); clear hk6)
        go_ret
        exact ⟨rfl, HK6.out⟩
set_option maxRecDepth 100000 in
set_option maxHeartbeats 8000000 in
theorem pool_plays (w : World) (n pages room : Int) (v : Value) (l : List PStep) (h : PStepsAt w v l (fun j => j < w.heap.size)) (hT : Typed w) :
    Calls Tryz.prog 8 #[.int .i64 n, .int .i64 pages, .int .i64 room, v] w (RetTrue w) := by
  by_cases hm : l.length ≤ 120 ∧ 1 ≤ n ∧ n ≤ 200
  · obtain ⟨h1, h2, h3⟩ := hm
    obtain ⟨k, rfl⟩ : ∃ k : Nat, n = k := ⟨n.toNat, by omega⟩
    exact pool_plays_main w k pages room v l h (by omega) (by omega) h1 hT
  obtain ⟨hll, a, cap, rfl⟩ := h.shape
  have HT := Lib.hid hT
  clear hT h
  by_cases h1 : l.length ≤ 120
  · have b1 : decide (120 < (l.length : Int)) = false := decide_eq_false (by omega)
    by_cases h2 : 1 ≤ n
    · have b2 : decide (n < 1) = false := decide_eq_false (by omega)
      have b3 : decide (200 < n) = true := decide_eq_true (by omega)
      clear h1 h2 hm
      go_enter Tryz.func8, Tryz.ntmps8
      go_wp2_with (go_at_call 9; (with_reducible refine (awake12 _ HT.out).mono ?_); rintro e w6 ⟨rfl, hk6⟩; have HK6 := Lib.hid hk6; clear hk6)
      go_ret
      exact ⟨rfl, HK6.out⟩
    · have b2 : decide (n < 1) = true := decide_eq_true (by omega)
      clear h1 h2 hm
      go_enter Tryz.func8, Tryz.ntmps8
      go_wp2_with (go_at_call 9; (with_reducible refine (awake12 _ HT.out).mono ?_); rintro e w6 ⟨rfl, hk6⟩; have HK6 := Lib.hid hk6; clear hk6)
      go_ret
      exact ⟨rfl, HK6.out⟩
  · have b1 : decide (120 < (l.length : Int)) = true := decide_eq_true (by omega)
    clear h1 hm
    go_enter Tryz.func8, Tryz.ntmps8
    go_wp2_with (go_at_call 9; (with_reducible refine (awake12 _ HT.out).mono ?_); rintro e w6 ⟨rfl, hk6⟩; have HK6 := Lib.hid hk6; clear hk6)
    go_ret
    exact ⟨rfl, HK6.out⟩
theorem Kept.below {w w' : World} (h : Kept Nob w w') : Below w.heap.size w w' :=
  ⟨h.os, h.tape, h.output, h.size, fun k hk => h.block k hk (fun f => f)⟩
end Go.Proofs.YthppgchmamonnaaGreatDoor
