/- The pool: write of a page that is held, whatever the disk answers. -/
import Derived.Test.YthppgchmamonnaaGreatDoorPq13
import Derived.Test.YthppgchmamonnaaGreatDoorPq14
import Derived.Test.YthppgchmamonnaaGreatDoorPq24
namespace Go.Proofs.YthppgchmamonnaaGreatDoor
open Go.RowKit
def sector (ys : List Int) (j : Nat) : List Value := ((ys.drop (64 * j)).take 64).map (Value.int .u8)
theorem sector_length {ys : List Int} (hl : ys.length = 512) {j : Nat} (hj : j < 8) : (sector ys j).length = 64 := by
  rw [sector, List.length_map, List.length_take, List.length_drop, hl]; omega
theorem sector_bytes (ys : List Int) (j : Nat) : ∀ u ∈ sector ys j, IsByte u := fun u hu => by
  obtain ⟨y, _, rfl⟩ := List.mem_map.1 hu; exact ⟨y, rfl⟩
def Dsk.wr (d : Dsk) (s : Nat) (ys : List Int) : Nat → Dsk × Nat
  | 0 => (d, 0)
  | j + 1 => if (Dsk.wr d s ys j).2 = 0 then (Dsk.wr d s ys j).1.write ((s + j : Nat) : Int) (sector ys j) else Dsk.wr d s ys j
theorem Dsk.wr_go {d : Dsk} {s : Nat} {ys : List Int} {j : Nat} (h : (d.wr s ys j).2 = 0) : d.wr s ys (j + 1) = (d.wr s ys j).1.write ((s + j : Nat) : Int) (sector ys j) := by rw [Dsk.wr, if_pos h]
theorem Dsk.wr_stop {d : Dsk} {s : Nat} {ys : List Int} {j : Nat} (h : (d.wr s ys j).2 ≠ 0) : d.wr s ys (j + 1) = d.wr s ys j := by rw [Dsk.wr, if_neg h]
theorem Dsk.wr_stays {d : Dsk} {s : Nat} {ys : List Int} {j : Nat} (h : (d.wr s ys j).2 ≠ 0) : ∀ n, j ≤ n → d.wr s ys n = d.wr s ys j := by
  intro n
  induction n with
  | zero =>
    intro hn
    have e : j = 0 := by omega
    rw [e]
  | succ n ih =>
    intro hn
    by_cases e : j = n + 1
    · rw [e]
    · rw [Dsk.wr_stop (by rw [ih (by omega)]; exact h), ih (by omega)]
theorem Dsk.write_good (d : Dsk) (k : Int) (x : List Value) : (d.write k x).1.good = d.good := by
  unfold Dsk.write; split
  · rfl
  · split
    · rfl
    · split <;> rfl
theorem Dsk.write_ops2 (d : Dsk) (k : Int) (x : List Value) : (d.write k x).1.ops ≤ d.ops + 1 := by
  unfold Dsk.write; split
  · show d.ops ≤ _; omega
  · split
    · show d.ops ≤ _; omega
    · split
      · exact Int.le_refl _
      · exact Int.le_refl _
theorem Dsk.write_in {d : Dsk} {k : Nat} {x : List Value} (hk : k < d.now.length) (hx : x.length = 64) : (d.write k x).2 = 0 ∨ (d.write k x).2 = 9 := by
  unfold Dsk.write
  rw [if_neg (by omega), if_neg (by omega)]
  split <;> simp
theorem Dsk.wr_good (d : Dsk) (s : Nat) (ys : List Int) (j : Nat) : (d.wr s ys j).1.good = d.good := by
  induction j with
  | zero => rfl
  | succ j ih =>
    rw [Dsk.wr]; split
    · rw [Dsk.write_good]; exact ih
    · exact ih
theorem Dsk.wr_ops (d : Dsk) (s : Nat) (ys : List Int) (j : Nat) : (d.wr s ys j).1.ops ≤ d.ops + j := by
  induction j with
  | zero => simp [Dsk.wr]
  | succ j ih =>
    rw [Dsk.wr]; split
    · have := Dsk.write_ops2 (d.wr s ys j).1 ((s + j : Nat) : Int) (sector ys j); omega
    · omega
def Dsk.save (d : Dsk) (s : Nat) (ys : List Int) : Dsk × Nat := if (d.wr s ys 8).2 = 0 then (d.wr s ys 8).1.sync else d.wr s ys 8
theorem Dsk.sync_ops2 (d : Dsk) : d.sync.1.ops ≤ d.ops + 1 := by
  unfold Dsk.sync; split
  · exact Int.le_refl _
  · exact Int.le_refl _
theorem Dsk.sync_len (d : Dsk) : d.sync.1.good.length = d.good.length := by
  unfold Dsk.sync; split
  · exact Dsk.settle_length _ _ _
  · rfl
theorem Dsk.sync_code (d : Dsk) : d.sync.2 = 0 ∨ d.sync.2 = 9 := by
  unfold Dsk.sync; split <;> simp
theorem Dsk.save_ops (d : Dsk) (s : Nat) (ys : List Int) : (d.save s ys).1.ops ≤ d.ops + 9 := by
  have h := Dsk.wr_ops d s ys 8
  unfold Dsk.save; split
  · have := Dsk.sync_ops2 (d.wr s ys 8).1; omega
  · omega
theorem Dsk.save_len (d : Dsk) (s : Nat) (ys : List Int) : (d.save s ys).1.good.length = d.good.length := by
  unfold Dsk.save; split
  · rw [Dsk.sync_len, Dsk.wr_good]
  · rw [Dsk.wr_good]
def RetDsk (w : World) (bd : Nat) (d : Dsk) (F : Nat → Prop) (code : Nat) (en : Ending) (w' : World) : Prop :=
  ∃ v, en = .returned v ∧ MaybeInner w' v code (From w.heap.size) ∧ (∃ F', DiskAt w' bd d F' ∧ Grows F w.heap.size F') ∧ Kept F w w'
def RetDskBad (w : World) (bd : Nat) (d : Dsk) (F : Nat → Prop) (code : Nat) (en : Ending) (w' : World) : Prop :=
  ∃ g, en = .returned (.iface 81 (.pointer (some ⟨g, 0, none⟩))) ∧ 1 ≤ code ∧ code ≤ 15 ∧ InnerAt w' (.iface 81 (.pointer (some ⟨g, 0, none⟩))) code (From w.heap.size) ∧ (∃ F', DiskAt w' bd d F' ∧ Grows F w.heap.size F') ∧ Kept F w w'
theorem RetErr.zero {w : World} {b : Nat} {d : Dsk} {F : Nat → Prop} {op : ByteArray} {id : Int} {en : Ending} {w' : World} (h : RetErr w b d F op id 0 en w') : RetWrite w b d F en w' := by
  obtain ⟨v, h1, h2, h3, ⟨F', h4, h5⟩, h6⟩ := h
  rcases h2 with ⟨-, rfl⟩ | ⟨h, -⟩
  · exact ⟨h1, F', h4, h5, h6⟩
  · omega
theorem RetErr.pos {w : World} {b : Nat} {d : Dsk} {F : Nat → Prop} {op : ByteArray} {id : Int} {code : Nat} {en : Ending} {w' : World} (h : RetErr w b d F op id code en w') (hc : code ≠ 0) : RetDskBad w b d F code en w' := by
  obtain ⟨v, h1, h2, h3, h4, h6⟩ := h
  rcases h2 with ⟨h, -⟩ | ⟨c1, c2, g, rfl, -, e3, e4⟩
  · exact absurd h hc
  · exact ⟨g, h1, c1, c2, .inr ⟨op, id, g, rfl, h3 g rfl, e3, e4⟩, h4, h6⟩
theorem RetDsk.of_ok {w : World} {b : Nat} {d : Dsk} {F : Nat → Prop} {en : Ending} {w' : World} (h : RetWrite w b d F en w') : RetDsk w b d F 0 en w' := by
  obtain ⟨h1, F', h4, h5, h6⟩ := h
  exact ⟨_, h1, .inl ⟨rfl, rfl⟩, ⟨F', h4, h5⟩, h6⟩
theorem RetDsk.zero {w : World} {b : Nat} {d : Dsk} {F : Nat → Prop} {code : Nat} {en : Ending} {w' : World} (h : RetDsk w b d F code en w') (hc : code = 0) : RetWrite w b d F en w' := by
  obtain ⟨v, h1, h2, ⟨F', h4, h5⟩, h6⟩ := h
  rcases h2 with ⟨-, rfl⟩ | ⟨h, -⟩
  · exact ⟨h1, F', h4, h5, h6⟩
  · omega
def WrRel (w1 : World) (bd : Nat) (d : Dsk) (F : Nat → Prop) (s : Nat) (ys : List Int) (j : Nat) (wr : World) : Prop :=
  (d.wr s ys j).2 = 0 ∧ ∃ F', DiskAt wr bd (d.wr s ys j).1 F' ∧ Grows F w1.heap.size F' ∧ Kept F w1 wr
set_option maxRecDepth 100000 in
set_option maxHeartbeats 4000000 in
theorem pool_write_any (w : World) (b bd mb : Nat) (P : Pl) (S : Nat → Prop) (h : PoolAt w b bd mb P S) (hkd : P.Keyed) (k : Nat) (x : Hd) (hx : ((k : Int), x) ∈ P.all) (hk2 : k ≤ 2000)
    (p : PgM) (R : Nat → Prop) (hp : PageAt w x.pg p R) (hz : Sized p.ss) (hu : usedOf p.ss ≤ 512)
    (d : Dsk) (F : Nat → Prop) (hD : DiskAt w bd d F) (hFb : ¬ F b) (_hkl : 8 * k + 8 ≤ d.good.length) (hops : d.ops ≤ 1000000000000) :
    Calls Tryz.prog 42 #[.pointer (some ⟨b, 0, none⟩), .int .i64 k] w (RetDsk w bd (d.wr (8 * k) (bytesOf p) 8).1 F (d.wr (8 * k) (bytesOf p) 8).2) := by
  have HBt := Lib.hid (page_bytes w x.pg p R hp hz hu)
  have hlk := h.look hkd hx
  have c0 : w.cell? ⟨b, 0, none⟩ = some (.pointer (some ⟨bd, 0, none⟩)) := cell_at h.head 0 _ rfl
  have c5 : w.cell? ⟨b, 5, none⟩ = some (.map (some mb)) := cell_at h.head 5 _ rfl
  have cg : w.cell? ⟨x.g, 0, none⟩ = some (.pointer (some ⟨x.pg, 0, none⟩)) := cell_at (h.held _ hx).2 0 _ rfl
  have HC0 := Lib.hid c0
  have hbl := h.lt
  have HD := Lib.hid hD
  have HFb := Lib.hid hFb
  have HLn := Lib.hid (bytesOf_length p hu)
  clear h hkd hx hp hz hu hD hFb
  generalize bytesOf p = ys at *
  go_enter Tryz.func42, Tryz.ntmps42
  go_wp2_with (go_at_call 51; (with_reducible refine HBt.out.mono ?_); rintro e w1 ⟨g, rfl, hb1, hk1⟩; have HBy1 := Lib.hid hb1; have HK1 := Lib.hid hk1; clear hb1 hk1)
  have hgs : w.heap.size ≤ g := HBy1.out.2 g rfl
  have hgl : g < w1.heap.size := HBy1.out.blockLt rfl
  have HR1 : Hid (Reads w1 (.slice (some ⟨g, 0, none⟩) 512 512) (ys.map (Value.int .u8)) (fun q => q = g)) := Lib.hid (Own.reads (F := fun q => q = g) ⟨HBy1.out.1, fun q hq => by
    simp only [Value.ownBlock, Option.some.injEq] at hq; exact hq.symm⟩)
  have hFg : ¬ F g := fun f => by have := HD.out.under g f; omega
  have hb1 : b < w1.heap.size := by have := HK1.out.size; omega
  have c01 : w1.cell? ⟨b, 0, none⟩ = some (.pointer (some ⟨bd, 0, none⟩)) := (HK1.out.cell (p := ⟨b, 0, none⟩) hbl (fun f => f)).trans HC0.out
  have HC1 := Lib.hid c01
  have HS0 : Hid (WrRel w1 bd d F (8 * k) ys 0 w1) := Lib.hid ⟨rfl, F, HD.out.kept HK1.out (fun _ _ f => f), Grows.refl _ _, Kept.refl _ _⟩
  clear c01 c0 c5 cg hlk
  go_loopw [18] (fun i wr => ∃ j : Nat, j ≤ 8 ∧ i = .int .i64 j ∧ WrRel w1 bd d F (8 * k) ys j wr) (fun i _ => 8 - (intOf i).toNat)
  case atStart => exact ⟨0, by omega, rfl, HS0.out⟩
  case round =>
    clear HS0
    obtain ⟨j, hj, rfl, hgo, F1, hd1, hg1, hk1⟩ := hrel
    have HGo := Lib.hid hgo
    have HD1 := Lib.hid hd1
    have HG1 := Lib.hid hg1
    have HKr := Lib.hid hk1
    have c0 : wr.cell? ⟨b, 0, none⟩ = some (.pointer (some ⟨bd, 0, none⟩)) := (hk1.cell (p := ⟨b, 0, none⟩) hb1 HFb.out).trans HC1.out
    have HC0r := Lib.hid c0
    clear hd1 hg1 hk1 hgo
    by_cases hlt : j < 8
    · have hFg1 : ¬ F1 g := fun f => by rcases HG1.out g f with e | e
                                        · exact hFg e
                                        · omega
      have hFb1 : ¬ F1 b := fun f => by
        rcases HG1.out b f with e | e
        · exact HFb.out e
        · omega
      have hbr : b < wr.heap.size := by have := HKr.out.size; omega
      have hrd : Reads wr (.slice (some ⟨g, j * 64, none⟩) 64 (512 - j * 64)) (sector ys j) (fun q => q = g) := by
        have h1 := (HR1.out.kept HKr.out (fun q hq f => hFg (hq ▸ f))).dropped (j * 64) (by rw [List.length_map, HLn.out]; omega)
        have h2 := h1.take 64 (by rw [List.length_drop, List.length_map, HLn.out]; omega) (by rw [List.length_drop, List.length_map, HLn.out]; omega)
        rw [← List.map_drop, ← List.map_take, Nat.zero_add, Nat.mul_comm j 64] at h2
        rw [Nat.mul_comm j 64]
        exact h2
      have HWr : Hid (∀ W, Kept Nob wr W → Calls Tryz.prog 78 #[.pointer (some ⟨bd, 0, none⟩), .int .i64 ((k : Int) * 8 + (j : Int)), .slice (some ⟨g, j * 64, none⟩) 64 (512 - j * 64)] W (RetErr W bd (d.wr (8 * k) ys (j + 1)).1 F1 opWrite ((k : Int) * 8 + (j : Int)) (d.wr (8 * k) ys (j + 1)).2)) := Lib.hid fun W q => by
        have := disk_write_any W bd _ F1 (HD1.out.kept q (fun _ _ f => f)) ((8 * k + j : Nat) : Int) _ _ _ (hrd.kept q (fun _ _ f => f)) (sector_bytes ys j) (fun q hq f => hFg1 (hq ▸ f)) (by have := Dsk.wr_ops d (8 * k) ys j; omega)
        rw [← Dsk.wr_go HGo.out] at this
        rw [show ((8 * k + j : Nat) : Int) = (k : Int) * 8 + (j : Int) from by omega] at this
        exact this
      clear hrd
      have hw1 : IntKind.i64.wrap ((j : Int) * 64) = (j : Int) * 64 := IntWalk.i64_in _ ⟨by omega, by omega⟩
      have hw2 : IntKind.i64.wrap ((j : Int) + 1) = (j : Int) + 1 := IntWalk.i64_in _ ⟨by omega, by omega⟩
      have hw3 : IntKind.i64.wrap (((j : Int) + 1) * 64) = ((j : Int) + 1) * 64 := IntWalk.i64_in _ ⟨by omega, by omega⟩
      have hw4 : IntKind.i64.wrap ((k : Int) * 8) = (k : Int) * 8 := IntWalk.i64_in _ ⟨by omega, by omega⟩
      have hw5 : IntKind.i64.wrap ((k : Int) * 8 + (j : Int)) = (k : Int) * 8 + (j : Int) := IntWalk.i64_in _ ⟨by omega, by omega⟩
      have hn1 : ((j : Int) * 64).toNat = j * 64 := by omega
      have hn2 : (((j : Int) + 1) * 64).toNat = j * 64 + 64 := by omega
      have hq1 : (0 : Int) ≤ (j : Int) * 64 := by omega
      have hq2 : (j : Int) * 64 ≤ ((j : Int) + 1) * 64 := by omega
      have hq3 : ((j : Int) + 1) * 64 ≤ 512 := by omega
      have hq4 : ¬ 512 = j * 64 := by omega
      have hq6 : (0 : Int) ≤ ((j : Int) + 1) * 64 := by omega
      have hq7 : (j : Int) * 64 ≤ (j : Int) * 64 + 64 := by omega
      have hq5 : j * 64 + 64 - j * 64 = 64 := by omega
      by_cases hc : (d.wr (8 * k) ys (j + 1)).2 = 0
      · have HWz : Hid (∀ W, Kept Nob wr W → Calls Tryz.prog 78 #[.pointer (some ⟨bd, 0, none⟩), .int .i64 ((k : Int) * 8 + (j : Int)), .slice (some ⟨g, j * 64, none⟩) 64 (512 - j * 64)] W (RetWrite W bd (d.wr (8 * k) ys (j + 1)).1 F1)) :=
          Lib.hid fun W q => (HWr.out W q).mono fun e w' h => by rw [hc] at h; exact h.zero
        have HCz := Lib.hid hc
        clear HWr hc
        go_wp2_with fail
        go_region_held3 (fun w' => w'.cell? ⟨b, 0, none⟩ = some (.pointer (some ⟨bd, 0, none⟩))) (first | (go_keep; done) | assumption)
          ((go_at_call 78; (with_reducible refine (HWz.out _ (Kept.drew Nob wr)).mono ?_); rintro e w3 ⟨rfl, F3, hd3, hg3, hk3⟩; have HD3 := Lib.hid hd3; have HG3 := Lib.hid hg3; have HK3 := Lib.hid hk3; have c03 : w3.cell? ⟨b, 0, none⟩ = some (.pointer (some ⟨bd, 0, none⟩)) := (hk3.cell (p := ⟨b, 0, none⟩) hbr hFb1).trans (((Kept.drew Nob wr).cell (p := ⟨b, 0, none⟩) hbr (fun f => f)).trans HC0r.out); clear hd3 hg3 hk3))
        have HN : Hid (WrRel w1 bd d F (8 * k) ys (j + 1) w3) := Lib.hid ⟨HCz.out, F3, HD3.out, HG1.out.trans HG3.out (by have := HKr.out.size; have := (Kept.drew Nob wr).size; omega), HKr.out.trans ((Kept.drew F1 wr).trans' HK3.out) fun q hq e => (HG1.out q e).elim id fun e => absurd e (by omega)⟩
        clear hw1 hw2 hw3 hw4 hw5 hn1 hn2 hq1 hq2 hq3 hq4 hq5 hq6 hq7
        go_wp2_with fail
        go_roundw
        case rel => exact ⟨j + 1, by omega, by go_num, HN.out⟩
        case measure => simp [intOf]; omega
      · have HWz : Hid (∀ W, Kept Nob wr W → Calls Tryz.prog 78 #[.pointer (some ⟨bd, 0, none⟩), .int .i64 ((k : Int) * 8 + (j : Int)), .slice (some ⟨g, j * 64, none⟩) 64 (512 - j * 64)] W (RetDskBad W bd (d.wr (8 * k) ys (j + 1)).1 F1 (d.wr (8 * k) ys (j + 1)).2)) :=
          Lib.hid fun W q => (HWr.out W q).mono fun e w' h => h.pos hc
        have HCz := Lib.hid (Dsk.wr_stays hc 8 (by omega))
        clear HWr hc
        go_wp2_with fail
        go_region_held3 (fun w' => w'.cell? ⟨b, 0, none⟩ = some (.pointer (some ⟨bd, 0, none⟩))) (first | (go_keep; done) | assumption)
          ((go_at_call 78; (with_reducible refine (HWz.out _ (Kept.drew Nob wr)).mono ?_); rintro e w3 ⟨ge, rfl, hc1, hc2, hin, ⟨F3, hd3, hg3⟩, hk3⟩; have HC1 := Lib.hid hc1; have HC2 := Lib.hid hc2; have HIn := Lib.hid hin; have HD3 := Lib.hid hd3; have HG3 := Lib.hid hg3; have HK3 := Lib.hid hk3; have c03 : w3.cell? ⟨b, 0, none⟩ = some (.pointer (some ⟨bd, 0, none⟩)) := (hk3.cell (p := ⟨b, 0, none⟩) hbr hFb1).trans (((Kept.drew Nob wr).cell (p := ⟨b, 0, none⟩) hbr (fun f => f)).trans HC0r.out); clear hc1 hc2 hin hd3 hg3 hk3))
        clear hw1 hw2 hw3 hw4 hw5 hn1 hn2 hq1 hq2 hq3 hq4 hq5 hq6 hq7
        go_wp2_with fail
        go_ret
        have s1 := HK1.out.size
        have s2 := HKr.out.size
        have s3 := (Kept.drew Nob wr).size
        rw [HCz.out]
        exact ⟨_, rfl, .inr ⟨by have := HC1.out; omega, by have := HC2.out; omega, HIn.out.mono fun q _ hq => by have hq : wr.drew.heap.size ≤ q := hq; show _ ≤ _; omega⟩, ⟨F3, HD3.out, fun q f => by
          rcases HG3.out q f with e | e
          · exact (HG1.out q e).imp id fun e => by omega
          · exact .inr (by omega)⟩, HK1.out.nob.trans (HKr.out.trans ((Kept.drew F1 wr).trans' HK3.out) fun q hq e => (HG1.out q e).elim id fun e => absurd e (by omega)) fun q hq e => e⟩
    · have hj8 : j = 8 := by omega
      subst hj8
      clear hlt hj
      go_wp2_with fail
      go_ret
      rw [HGo.out]
      exact RetDsk.of_ok ⟨rfl, F1, HD1.out, fun q f => (HG1.out q f).imp id fun e => Nat.le_trans HK1.out.size e, HK1.out.nob.trans' HKr.out⟩
end Go.Proofs.YthppgchmamonnaaGreatDoor
