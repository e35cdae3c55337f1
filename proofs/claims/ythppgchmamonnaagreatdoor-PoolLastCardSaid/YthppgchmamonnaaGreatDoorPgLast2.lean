/- Law: PoolLast. -/
import Derived.Test.YthppgchmamonnaaGreatDoorPgLast1
import Derived.Test.YthppgchmamonnaaGreatDoorPgPool13
import Derived.Test.YthppgchmamonnaaGreatDoorPgAlike
import Derived.Test.YthppgchmamonnaaGreatDoorPgOps
import Derived.Deep.DeepCutAuto
namespace Go.Proofs.YthppgchmamonnaaGreatDoor
open Go.RowKit

theorem Dsk.fresh_zero (n i : Nat) (h : i < n) : (Dsk.fresh n).now.getD i [] = Dsk.zeroSector := by
  simp [Dsk.fresh, h]
/-- the law's counts -/
def CntAt (w : World) (cb : Nat) (cnt : Nat → Nat) : Prop := Own w 3 (.slice (some ⟨cb, 0, none⟩) 8 8) ((List.range 8).map fun k => Value.int .i64 (cnt k)) (Just cb)
theorem CntAt.get {w : World} {cb : Nat} {cnt : Nat → Nat} (h : CntAt w cb cnt) {k : Nat} (hk : k < 8) : w.cell? ⟨cb, k, none⟩ = some (.int .i64 (cnt k)) := Own.cell h k _ (by simp [hk])
theorem CntAt.put {w : World} {cb : Nat} {cnt : Nat → Nat} (h : CntAt w cb cnt) (k c : Nat) : CntAt (w.setCell ⟨cb, k, none⟩ (.int .i64 c)) cb (fun j => if j = k then c else cnt j) := by
  have := Own.set h k (.int .i64 c)
  unfold CntAt
  have e : ((List.range 8).map fun j => Value.int .i64 ((if j = k then c else cnt j : Nat) : Int)) = ((List.range 8).map fun j => Value.int .i64 (cnt j)).set k (.int .i64 c) := by
    refine List.ext_getElem? fun i => ?_
    rw [List.getElem?_set]
    by_cases hik : k = i
    · subst hik
      by_cases hk8 : k < 8 <;> simp [hk8]
    · rw [if_neg hik]
      by_cases hi8 : i < 8
      · simp [hi8, show ¬ i = k from fun e => hik e.symm]
      · simp [hi8]
  rw [e]
  exact this
/-- inside the law: the pool, the counts -/
def LastRel (w0 : World) (bd b mb cb : Nat) (i room : Nat) (logged : Bool) (wr : World) : Prop :=
  ∃ cnt Z, LastIn w0 wr bd b mb cnt i room logged i Z ∧ CntAt wr cb cnt ∧ ¬ Z cb ∧ w0.heap.size ≤ cb
theorem LastRel.start {w0 w1 w2 w3 : World} {bd cb room : Nat} {F : Nat → Prop} (hD : DiskAt w1 bd (Dsk.fresh 64) F) (hF : ∀ x, F x → w0.heap.size ≤ x) (hk0 : Kept Nob w0 w1) (hp : PoolAt w2 (w1.heap.size + 1) bd w1.heap.size (Pl.none 8 room) (fun _ => False)) (hk : Kept Nob w1 w2) (hr : room ≤ 100)
    (hk3 : Kept Nob w2 w3) (hc : Own w3 3 (.slice (some ⟨cb, 0, none⟩) 8 8) (List.replicate 8 (.int .i64 0)) (fun k => w2.heap.size ≤ k)) (logged : Bool) : LastRel w0 bd (w1.heap.size + 1) w1.heap.size cb 0 room logged w3 := by
  have hs := hk0.size
  have hs1 := hk.size
  have hcb := hc.2 cb rfl
  have hb := hp.lt
  refine ⟨fun _ => 0, fun x => F x ∨ x = w1.heap.size + 1 ∨ x = w1.heap.size, ⟨Dsk.fresh 64, Pl.none 8 room, Nob, fun _ => ⟨0, 0, []⟩, Live.nob ⟨F, (fun _ => False), Nob, ⟨hp, hD.kept hk (fun _ _ f => f), by show 8 * 8 ≤ _; simp [Dsk.fresh], fun p hp => (by cases hp), fun p hp => (by cases hp), Nat.zero_le _, hr, fun x hx => hx.elim, fun p hp => (by cases hp), fun x hx => hx.elim (fun e => e.elim) (fun e => e.elim), fun f => by have := hD.under _ f; omega, fun f => by have := hD.under _ f; omega, fun _ _ f => f, ?_, hk0.then hk⟩, ?_⟩ hk3, ?_⟩, ?_, ?_, by omega⟩
  · rintro x (e | e | e | e)
    · exact hF x e
    · omega
    · omega
    · exact e.elim
  · rintro x (e | e | e | e | e | e)
    · exact .inl e
    · exact .inr (.inl e)
    · exact .inr (.inr e)
    · exact e.elim
    · exact e.elim
    · exact e.elim
  · refine ⟨⟨rfl, rfl⟩, by show (0 : Int) ≤ _; omega, by simp [Dsk.fresh], rfl, rfl, Nat.le_refl _, Nat.le_refl _, Nat.le_refl _, Nat.le_refl _, fun _ => by omega, fun p hp => (by cases hp), fun k hk _ => .inl ⟨rfl, fun i hi => ?_⟩, fun _ => ⟨rfl, by omega⟩, fun _ => ⟨rfl, rfl, rfl⟩⟩
    exact Dsk.fresh_zero 64 _ (by omega)
  · refine ⟨hc.1, fun g hg => ?_⟩
    simp only [Value.ownBlock, Option.some.injEq] at hg
    exact hg.symm
  · rintro (e | e | e)
    · have := hD.under _ e; omega
    · omega
    · omega
theorem LastRel.kept {w0 w : World} {bd b mb cb i room : Nat} {logged : Bool} (h : LastRel w0 bd b mb cb i room logged w) : Kept Nob w0 w := by
  obtain ⟨cnt, Z, h1, -⟩ := h
  exact h1.kept
theorem LastIn.stats {w0 w : World} {bd b mb : Nat} {cnt : Nat → Nat} {i room : Nat} {logged : Bool} {m : Int} {Z : Nat → Prop} (h : LastIn w0 w bd b mb cnt i room logged m Z) :
    Calls Tryz.prog 18 #[.pointer (some ⟨b, 0, none⟩)] w fun e w' => (∃ x y c : Nat, e = .returned (.tuple #[.int .i64 x, .int .i64 y, .int .i64 c]) ∧ (logged = false → c = 0)) ∧ Kept Nob w w' := by
  obtain ⟨d, P, K, con, ⟨F, S, R, L, hZ⟩, h⟩ := h
  refine (pool_stats w b bd mb P S L.pool).mono ?_
  rintro e w' ⟨rfl, n, rfl⟩
  exact ⟨⟨_, _, _, rfl, fun e => (h.nolog e).2.1⟩, Kept.drewN _ _ _⟩
theorem LastIn.ops {w0 w : World} {bd b mb : Nat} {cnt : Nat → Nat} {i room : Nat} {m : Int} {Z : Nat → Prop} (h : LastIn w0 w bd b mb cnt i room false m Z) :
    Calls Tryz.prog 19 #[.pointer (some ⟨bd, 0, none⟩)] w fun e w' => e = .returned (.int .i64 0) ∧ w = w' := by
  obtain ⟨d, P, K, con, ⟨F, S, R, L, hZ⟩, h⟩ := h
  have := disk_ops' w bd d F L.disk
  rw [(h.nolog rfl).2.2] at this
  exact this
theorem LastIn.held {w0 w : World} {bd b mb : Nat} {cnt : Nat → Nat} {i room : Nat} {logged : Bool} {m : Int} {Z : Nat → Prop} (h : LastIn w0 w bd b mb cnt i room logged m Z) :
    Calls Tryz.prog 15 #[.pointer (some ⟨b, 0, none⟩)] w fun e w' => (∃ a n c, e = .returned (.slice a n c) ∧ (n : Int) ≤ (room : Int)) ∧ Kept Nob w w' := by
  obtain ⟨d, P, K, con, ⟨F, S, R, L, hZ⟩, h⟩ := h
  have hl := L.len
  have hr := L.room
  have := h.room
  refine (pool_held w b bd mb P S L.pool (by omega)).mono ?_
  rintro e w' ⟨a, c, rfl, ho, hk⟩
  refine ⟨⟨a, _, c, rfl, ?_⟩, hk⟩
  omega

/-- inside a round: the log is told -/
def MidRel (w0 : World) (bd b mb cb : Nat) (i room : Nat) (logged : Bool) (cnt : Nat → Nat) (wr : World) : Prop :=
  ∃ Z, LastIn w0 wr bd b mb cnt i room logged ((i : Int) + 1) Z ∧ CntAt wr cb cnt ∧ ¬ Z cb ∧ w0.heap.size ≤ cb
/-- inside a round: page k is pinned -/
def MidPin (w0 : World) (bd b mb cb : Nat) (i room : Nat) (logged : Bool) (k pg : Nat) (cnt cntc : Nat → Nat) (wr : World) : Prop :=
  ∃ Z, PinIn w0 wr bd b mb cnt i room logged ((i : Int) + 1) k pg Z ∧ CntAt wr cb cntc ∧ ¬ Z cb ∧ w0.heap.size ≤ cb
theorem CntAt.kept {w w' : World} {cb : Nat} {cnt : Nat → Nat} {G : Nat → Prop} (h : CntAt w cb cnt) (hk : Kept G w w') (hG : ¬ G cb) : CntAt w' cb cnt :=
  Own.kept h hk fun x hx e => hG (by rw [← show x = cb from hx]; exact e)
theorem CntAt.lt {w : World} {cb : Nat} {cnt : Nat → Nat} (h : CntAt w cb cnt) : cb < w.heap.size := Own.blockLt h rfl
theorem MidRel.of_false {w0 w : World} {bd b mb cb i room : Nat} {cnt : Nat → Nat} {Z : Nat → Prop} (h : LastIn w0 w bd b mb cnt i room false i Z) (hc : CntAt w cb cnt) (hZ : ¬ Z cb) (h0 : w0.heap.size ≤ cb) : MidRel w0 bd b mb cb i room false cnt w := by
  obtain ⟨d, P, K, con, L, h⟩ := h
  exact ⟨Z, ⟨d, P, K, con, L, ⟨h.on, h.ops, h.len, h.pages, h.room, h.clock, h.hits, h.reads, h.wrote, h.most, h.held, h.disk, fun e => (by cases e), h.nolog⟩⟩, hc, hZ, h0⟩
theorem MidRel.of_log {w0 w : World} {bd b mb cb i room : Nat} {cnt : Nat → Nat} {Z : Nat → Prop} (h : LastIn w0 w bd b mb cnt i room true i Z) (hc : CntAt w cb cnt) (hZ : ¬ Z cb) (h0 : w0.heap.size ≤ cb) :
    Calls Tryz.prog 22 #[.pointer (some ⟨b, 0, none⟩), .int .i64 ((i : Int) + 1)] w fun e w' => e = .returned (.tuple #[]) ∧ MidRel w0 bd b mb cb i room true cnt w' := by
  refine (h.log _ (by omega)).mono ?_
  rintro e w' ⟨rfl, Z', h', hg, hk⟩
  have := hc.lt
  exact ⟨rfl, Z', h', hc.kept hk hZ, fun e => (hg _ e).elim hZ (fun e => by omega), h0⟩
theorem MidRel.kept {w0 w : World} {bd b mb cb i room : Nat} {logged : Bool} {cnt : Nat → Nat} (h : MidRel w0 bd b mb cb i room logged cnt w) : Kept Nob w0 w := by
  obtain ⟨Z, h1, -⟩ := h
  exact h1.kept
theorem MidRel.pin {w0 w : World} {bd b mb cb i room : Nat} {logged : Bool} {cnt : Nat → Nat} (h : MidRel w0 bd b mb cb i room logged cnt w) (hi : i ≤ 1000) (hr : 1 ≤ room) (k : Nat) (hk : k < 8) :
    Calls Tryz.prog 12 #[.pointer (some ⟨b, 0, none⟩), .int .i64 k] w fun e w' =>
      (∃ pg, e = .returned (.tuple #[.pointer (some ⟨pg, 0, none⟩), .nilIface]) ∧ MidPin w0 bd b mb cb i room logged k pg cnt cnt w') ∨ (logged = false ∧ RetNoPage w k 8 Nob e w') := by
  obtain ⟨Z, h, hc, hZ, h0⟩ := h
  have := hc.lt
  refine (h.pin (fun _ => by omega) hi hr k hk).mono ?_
  rintro e w' (⟨pg, rfl, Z', h', hg, hkk⟩ | h')
  · exact .inl ⟨pg, rfl, Z', h', hc.kept hkk hZ, fun e => (hg _ e).elim hZ (fun e => by omega), h0⟩
  · exact .inr h'
theorem MidPin.nob {w0 w w' : World} {bd b mb cb i room : Nat} {logged : Bool} {k pg : Nat} {cnt cntc : Nat → Nat} (h : MidPin w0 bd b mb cb i room logged k pg cnt cntc w) (hk : Kept Nob w w') : MidPin w0 bd b mb cb i room logged k pg cnt cntc w' := by
  obtain ⟨Z, h, hc, hZ, h0⟩ := h
  exact ⟨Z, h.nob hk, hc.kept hk (fun f => f), hZ, h0⟩
theorem MidPin.get {w0 w : World} {bd b mb cb i room : Nat} {logged : Bool} {k pg : Nat} {cnt cntc : Nat → Nat} (h : MidPin w0 bd b mb cb i room logged k pg cnt cntc w) (hk : k < 8) : w.cell? ⟨cb, k, none⟩ = some (.int .i64 (cntc k)) := by
  obtain ⟨Z, h, hc, hZ, h0⟩ := h
  exact hc.get hk
theorem MidPin.froz {w0 w : World} {bd b mb cb i room : Nat} {logged : Bool} {k pg : Nat} {cnt cntc : Nat → Nat} (h : MidPin w0 bd b mb cb i room logged k pg cnt cntc w) (j : Nat) : w.frozen? ⟨cb, j, none⟩ = false := by
  obtain ⟨Z, h, hc, hZ, h0⟩ := h
  exact Own.frozen hc j
theorem MidPin.most {w0 w : World} {bd b mb cb i room : Nat} {logged : Bool} {k pg : Nat} {cnt cntc : Nat → Nat} (h : MidPin w0 bd b mb cb i room logged k pg cnt cntc w) : cnt k ≤ 20 := by
  obtain ⟨Z, ⟨d, P, K, con, x, e, L, h⟩, hc, hZ, h0⟩ := h
  exact h.most k
theorem MidPin.slots {w0 w : World} {bd b mb cb i room : Nat} {logged : Bool} {k pg : Nat} {cnt cntc : Nat → Nat} (h : MidPin w0 bd b mb cb i room logged k pg cnt cntc w) :
    Calls Tryz.prog 23 #[.pointer (some ⟨pg, 0, none⟩)] w fun e w' => (∃ a c, e = .returned (.slice a (cnt k) c)) ∧ Kept Nob w w' := by
  obtain ⟨Z, h, hc, hZ, h0⟩ := h
  exact h.slots
theorem MidPin.insert {w0 w : World} {bd b mb cb i room : Nat} {logged : Bool} {k pg : Nat} {cnt cntc : Nat → Nat} (h : MidPin w0 bd b mb cb i room logged k pg cnt cntc w) (hc20 : cnt k < 20) (v : Value) (G : Nat → Prop) (hv : Reads w v [.int .u8 k, .int .u8 (cnt k)] G) :
    Calls Tryz.prog 24 #[.pointer (some ⟨pg, 0, none⟩), v] w fun e w' => (∃ n : Int, e = .returned (.tuple #[.int .i64 n, .nilIface])) ∧ MidPin w0 bd b mb cb i room logged k pg (fun j => if j = k then cnt k + 1 else cnt j) cntc w' := by
  obtain ⟨Z, h, hc, hZ, h0⟩ := h
  have := hc.lt
  refine (h.insert hc20 v G hv).mono ?_
  rintro e w' ⟨⟨n, rfl⟩, Z', h', hg, hkk⟩
  exact ⟨⟨n, rfl⟩, Z', h', hc.kept hkk hZ, fun e => (hg _ e).elim hZ (fun e => by omega), h0⟩
theorem MidPin.count {w0 w : World} {bd b mb cb i room : Nat} {logged : Bool} {k pg : Nat} {cnt cntc : Nat → Nat} (h : MidPin w0 bd b mb cb i room logged k pg cnt cntc w) (c : Nat) : MidPin w0 bd b mb cb i room logged k pg cnt (fun j => if j = k then c else cntc j) (w.setCell ⟨cb, k, none⟩ (.int .i64 c)) := by
  obtain ⟨Z, ⟨d, P, K, con, x, e, L, h⟩, hc, hZ, h0⟩ := h
  exact ⟨Z, ⟨d, P, K, con, x, e, L.away (kept1 w cb k (.int .i64 c)) (fun y hy => by rw [show y = cb from hy]; exact ⟨hZ, h0⟩), h⟩, hc.put k c, hZ, h0⟩
theorem MidPin.unpin {w0 w : World} {bd b mb cb i room : Nat} {logged : Bool} {k pg : Nat} {cnt : Nat → Nat} (h : MidPin w0 bd b mb cb i room logged k pg cnt cnt w) (hc1 : 1 ≤ cnt k) :
    Calls Tryz.prog 14 #[.pointer (some ⟨b, 0, none⟩), .int .i64 k, .bool true, .int .i64 ((i : Int) + 1)] w fun e w' => e = .returned .nilIface ∧ LastRel w0 bd b mb cb (i + 1) room logged w' := by
  obtain ⟨Z, h, hc, hZ, h0⟩ := h
  have := hc.lt
  refine (h.unpin hc1).mono ?_
  rintro e w' ⟨rfl, Z', h', hg, hkk⟩
  exact ⟨rfl, cnt, Z', by rw [show ((i + 1 : Nat) : Int) = (i : Int) + 1 from by omega]; exact h', hc.kept hkk hZ, fun e => (hg _ e).elim hZ (fun e => by omega), h0⟩

theorem reads_two (w : World) (x y : Value) (t : TypeId) : Reads (w.alloc (.cells #[x, y] t)) (.slice (some ⟨w.heap.size, 0, none⟩) 2 2) [x, y] (fun k => k = w.heap.size) :=
  .inr ⟨w.heap.size, 0, 2, rfl, by simp, by simp, rfl, fun i u hu => new_cells w #[x, y] t i u hu⟩

set_option maxRecDepth 100000 in
set_option maxHeartbeats 4000000 in
theorem last_main (w : World) (v : Value) (xs : List Int) (G : Nat → Prop) (hl : Reads w v (xs.map (Value.int .i64)) G) (hx : xs.length ≤ 60) (room : Nat) (hr1 : 1 ≤ room) (hr2 : room ≤ 10) (logged : Bool) (hT : Typed w) :
    Calls Tryz.prog 6 #[v, .int .i64 room, .bool logged] w (RetTrue w) := by
  obtain ⟨va, vc, rfl, -⟩ := hl.shape
  rw [List.length_map] at hl ⊢
  have HT := Lib.hid hT
  have HL := Lib.hid hl
  clear hT hl
  go_enter Tryz.func6, Tryz.ntmps6
  go_wp2_with fail
  refine (disk_new w 64 (by omega) (by omega)).mono ?_
  rintro e w1 ⟨bd, rfl, hD1, hk1⟩
  have HN := Lib.hid (show Calls Tryz.prog 11 #[.pointer (some ⟨bd, 0, none⟩), .int .i64 8, .int .i64 room] w1 _ from pool_new w1 bd _ _ hD1 8 room (by omega) (by simp [Dsk.fresh]) hr1 (by omega))
  have HD1 := Lib.hid hD1
  have HK1 := Lib.hid hk1
  clear hD1 hk1
  go_wp2_with fail
  refine HN.out.mono ?_
  rintro e w2 ⟨rfl, hp2, hk2⟩
  have HP2 := Lib.hid hp2
  have HK2 := Lib.hid hk2
  clear hp2 hk2 HN
  go_wp2_with (at_make; go_must (refine wpList_make_pg rfl _ _ 36 rfl tInts rfl 8 .i64 .i64 rfl rfl (by omega) ?_); intro w3 ho3 hk3)
  have HR0 : Hid (LastRel w bd (w1.heap.size + 1) w1.heap.size w2.heap.size 0 room logged w3) := Lib.hid (LastRel.start HD1.out (fun x h => h.1) HK1.out HP2.out HK2.out (by omega) hk3 ho3 logged)
  clear ho3 hk3 HP2
  generalize w1.heap.size + 1 = b at *
  generalize w1.heap.size = mb at *
  generalize w2.heap.size = cb at *
  clear HD1 HK1 HK2
  go_wp2_with fail
  go_loopw [12] (fun i wr => ∃ k : Nat, k ≤ xs.length ∧ i = .int .i64 k ∧ LastRel w bd b mb cb k room logged wr) (fun i _ => xs.length - (intOf i).toNat)
  case atStart => exact ⟨0, Nat.zero_le _, rfl, HR0.out⟩
  case round =>
    clear HR0
    obtain ⟨k, hk, rfl, cnt, Z, hin, hct, hnZ, hcb0⟩ := hrel
    have HI := Lib.hid hin
    have HC := Lib.hid hct
    have HnZ := Lib.hid hnZ
    have HKw := Lib.hid hin.kept
    have hcw : cb < wr.heap.size := Own.blockLt hct rfl
    clear hin hct hnZ
    by_cases hlt : k < xs.length
    · obtain ⟨gb, go, xv, rfl, hxv, hc, -⟩ := (HL.out.kept HKw.out (fun _ _ f => f)).cell (i := k) (by rw [List.length_map]; exact hlt)
      obtain rfl : xv = .int .i64 xs[k] := by
        rw [List.getElem?_map, List.getElem?_eq_getElem hlt] at hxv
        exact (Option.some.inj hxv).symm
      clear hxv
      obtain ⟨n, hn⟩ : ∃ n : Nat, xs[k] % 8 = (n : Int) := ⟨(xs[k] % 8).toNat, by omega⟩
      have hn8 : n < 8 := by omega
      have hrd := round_any wr xs[k] 8 (by omega) (by omega)
      rw [hn] at hrd
      have HRd := Lib.hid hrd
      clear hn hrd
      generalize xs[k] = xk at *
      have HM0 : Hid (logged = false → MidRel w bd b mb cb k room logged cnt wr) := Lib.hid fun e => by subst e; exact MidRel.of_false HI.out HC.out HnZ.out hcb0
      have HM1 : Hid (logged = true → Calls Tryz.prog 22 #[.pointer (some ⟨b, 0, none⟩), .int .i64 ((k : Int) + 1)] wr fun e w' => e = .returned (.tuple #[]) ∧ MidRel w bd b mb cb k room logged cnt w') := Lib.hid fun e => by subst e; exact MidRel.of_log HI.out HC.out HnZ.out hcb0
      clear HI HC HnZ
      cases logged
      all_goals
        go_wp2_with (first
          | (go_at_call 17; (with_reducible refine HRd.out.mono ?_); rintro e w' ⟨rfl, rfl⟩)
          | (go_at_call 22; (with_reducible refine (HM1.out (by simp)).mono ?_); rintro e wl ⟨rfl, hml⟩; have HMl := Lib.hid hml; clear hml))
        first
          | have HM := HMl
          | have HM := Lib.hid (HM0.out (by simp))
        clear HM0 HM1
        have HPin := Lib.hid (HM.out.pin (by omega) hr1 n hn8)
        have HKm := Lib.hid HM.out.kept
        refine HPin.out.mono ?_
        clear HPin HM
        rintro e w3 (⟨pg, rfl, hp⟩ | ⟨hlg, g, rfl, hf, hk3⟩)
        · have HP := Lib.hid hp
          have hcn := hp.get hn8
          have hfz := hp.froz n
          have hm20 := hp.most
          clear hp
          have HSl := Lib.hid (fun W (q : Kept Nob w3 W) => (HP.out.nob q).slots)
          have hb1 : (n : Int) < 8 := by omega
          have hb0 : (0 : Int) ≤ (n : Int) := by omega
          have hmin : min (cnt n : Int) 20 = (cnt n : Int) := by omega
          have hne : ((cnt n : Int) != (cnt n : Int)) = false := by simp
          have hcb3 : cb < w3.heap.size := cell_lt hcn
          have HCn := Lib.hid hcn
          go_upto_region 19 with fail
          go_cut [102] (fun s wx => s = .bool false ∧ Kept Nob w3 wx)
          case first =>
            go_region_held3 (fun w' => w'.cell? ⟨cb, n, none⟩ = some (.int .i64 (cnt n))) (first | (go_keep; done) | assumption)
              ((go_at_call 23; (with_reducible refine (HSl.out _ (Kept.drew Nob w3)).mono ?_); rintro e w4 ⟨⟨a4, c4, rfl⟩, hk4⟩; have HK4 := Lib.hid ((Kept.drew Nob w3).then hk4); have hcn4 : w4.cell? ⟨cb, n, none⟩ = some (.int .i64 (cnt n)) := (HK4.out.cell (p := ⟨cb, n, none⟩) hcb3 (fun f => f)).trans HCn.out; clear hk4))
            all_goals (go_wp2_with fail; go_meet; exact ⟨rfl, HK4.out⟩)
          case rest =>
            obtain ⟨rfl, kx⟩ := hcut
            have hp4 := HP.out.nob kx
            have hcn4 := hp4.get hn8
            have hfz4 := hp4.froz n
            have HP4 := Lib.hid hp4
            clear kx hcn hfz HSl HCn HP hmin hne hp4
            by_cases h20 : cnt n < 20
            · have hd : decide ((cnt n : Int) < 20) = true := decide_eq_true (by omega)
              have HIn := Lib.hid (fun W (q : Kept Nob wc W) v G (hv : Reads W v [.int .u8 n, .int .u8 (cnt n)] G) => (HP4.out.nob q).insert h20 v G hv)
              have ka := Kept.alloc Nob wc (.cells #[.int .u8 n, .int .u8 (cnt n)] 5)
              have HIn2 := Lib.hid (HIn.out _ ka _ _ (reads_two wc _ _ _))
              clear ka HIn
              go_wp2_with (first
                | (go_at_call 24; (with_reducible refine HIn2.out.mono ?_); rintro e w5 ⟨⟨j5, rfl⟩, hp5⟩; have hcn5 := hp5.get hn8; have hfz5 := hp5.froz n; have hp6 := (hp5.count (cnt n + 1)).unpin (by simp); rw [show ((cnt n + 1 : Nat) : Int) = (cnt n : Int) + 1 from by omega] at hp6; have HUn := Lib.hid hp6; clear hp5 hp6)
                | (go_at_call 14; (with_reducible refine HUn.out.mono ?_); rintro e w6 ⟨rfl, hr6⟩; have HR6 := Lib.hid hr6; clear hr6))
              go_roundw
              case rel => exact ⟨k + 1, by omega, by go_num, HR6.out⟩
              case measure => simp [intOf]; omega
            · have hd : decide ((cnt n : Int) < 20) = false := decide_eq_false (by omega)
              have HUn := Lib.hid (HP4.out.unpin (by omega))
              go_wp2_with (go_at_call 14; (with_reducible refine HUn.out.mono ?_); rintro e w6 ⟨rfl, hr6⟩; have HR6 := Lib.hid hr6; clear hr6)
              go_roundw
              case rel => exact ⟨k + 1, by omega, by go_num, HR6.out⟩
              case measure => simp [intOf]; omega
        · have hK3 := HKm.out.then hk3
          have hIs := is_this w3 _ opPool n 8 _ hf (by omega) (by omega) (HT.out.kept hK3 (fun f => f))
          unfold opPool at hIs
          have HIs := Lib.hid hIs
          have HK3 := Lib.hid hK3
          clear hf hk3 hIs hK3
          first
            | (cases hlg; done)
            | (go_wp2_with (first
                | (go_at_call 13; (with_reducible refine HIs.out.mono ?_); rintro e w4 ⟨rfl, hk4⟩; have HK4 := Lib.hid (HK3.out.then hk4); clear hk4)
                | (go_at_call 9; (with_reducible refine (awake12 _ (HT.out.kept HK4.out (fun f => f))).mono ?_); rintro e w6 ⟨rfl, hk6⟩))
               go_ret
               exact ⟨rfl, HK4.out.then hk6⟩)
    · have hke : k = xs.length := by omega
      subst hke
      have HSt := Lib.hid HI.out.stats
      have HHe := Lib.hid (fun W (q : Kept Nob wr W) => (HI.out.nob q).held)
      have HOp : Hid (logged = false → ∀ W, Kept Nob wr W → Calls Tryz.prog 19 #[.pointer (some ⟨bd, 0, none⟩)] W fun e w' => e = .returned (.int .i64 0) ∧ W = w') := Lib.hid fun e => by subst e; exact fun W q => (HI.out.nob q).ops
      clear HI HC HnZ
      go_wp2_with fail
      refine HSt.out.mono ?_
      rintro e w3 ⟨⟨x3, y3, c3, rfl, hc3⟩, hk3⟩
      have HC3 := Lib.hid hc3
      have HK3 := Lib.hid hk3
      clear hc3 hk3
      cases logged
      · obtain rfl := HC3.out (by simp)
        go_wp2_with (first
          | (go_at_call 19; (with_reducible refine (HOp.out (by simp) _ HK3.out).mono ?_); rintro e w' ⟨rfl, rfl⟩)
          | (go_at_call 15; (with_reducible refine (HHe.out _ HK3.out).mono ?_); rintro e w5 ⟨⟨a5, n5, c5, rfl, hn5⟩, hk5⟩; have HK5 := Lib.hid ((HKw.out.then HK3.out).then hk5); clear hk5)
          | (go_at_call 9; (with_reducible refine (awake12 _ (HT.out.kept HK5.out (fun f => f))).mono ?_); rintro e w6 ⟨rfl, hk6⟩))
        go_ret
        exact ⟨rfl, HK5.out.then hk6⟩
      · go_wp2_with (first
          | (go_at_call 15; (with_reducible refine (HHe.out _ HK3.out).mono ?_); rintro e w5 ⟨⟨a5, n5, c5, rfl, hn5⟩, hk5⟩; have HK5 := Lib.hid ((HKw.out.then HK3.out).then hk5); clear hk5)
          | (go_at_call 9; (with_reducible refine (awake12 _ (HT.out.kept HK5.out (fun f => f))).mono ?_); rintro e w6 ⟨rfl, hk6⟩))
        go_ret
        exact ⟨rfl, HK5.out.then hk6⟩

set_option maxRecDepth 100000 in
theorem last_any (w : World) (v : Value) (xs : List Int) (G : Nat → Prop) (hl : Reads w v (xs.map (Value.int .i64)) G) (room : Int) (logged : Bool) (hT : Typed w) :
    Calls Tryz.prog 6 #[v, .int .i64 room, .bool logged] w (RetTrue w) := by
  by_cases g0 : 60 < xs.length
  · obtain ⟨va, vc, rfl, -⟩ := hl.shape
    rw [List.length_map]
    clear hl
    go_enter Tryz.func6, Tryz.ntmps6
    go_wp2_with (go_at_call 9; refine (awake12 _ hT).mono ?_; rintro e w' ⟨rfl, hk⟩)
    go_ret
    exact ⟨rfl, hk⟩
  by_cases g1 : room < 1
  · obtain ⟨va, vc, rfl, -⟩ := hl.shape
    rw [List.length_map]
    clear hl
    go_enter Tryz.func6, Tryz.ntmps6
    go_wp2_with (go_at_call 9; refine (awake12 _ hT).mono ?_; rintro e w' ⟨rfl, hk⟩)
    go_ret
    exact ⟨rfl, hk⟩
  by_cases g2 : 10 < room
  · obtain ⟨va, vc, rfl, -⟩ := hl.shape
    rw [List.length_map]
    clear hl
    go_enter Tryz.func6, Tryz.ntmps6
    go_wp2_with (go_at_call 9; refine (awake12 _ hT).mono ?_; rintro e w' ⟨rfl, hk⟩)
    go_ret
    exact ⟨rfl, hk⟩
  obtain ⟨room, rfl⟩ : ∃ a : Nat, room = a := ⟨room.toNat, by omega⟩
  exact last_main w v xs G hl (by omega) room (by omega) (by omega) logged hT
end Go.Proofs.YthppgchmamonnaaGreatDoor
