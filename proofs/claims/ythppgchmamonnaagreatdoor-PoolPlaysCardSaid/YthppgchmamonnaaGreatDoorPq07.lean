/- Disk: New. Disk: Crash. -/
import Derived.Test.YthppgchmamonnaaGreatDoorPq02
import Derived.Test.YthppgchmamonnaaGreatDoorPq04
import Derived.Deep.RegionLaw
namespace Go.Proofs.YthppgchmamonnaaGreatDoor
open Go.RowKit
def NewRel (w : World) (k : Nat) (wr : World) : Prop :=
  ∃ b cap, wr.heap[w.heap.size]? = some (.cells #[.slice b k cap, .slice none 0 0, .slice none 0 0, .int .i64 0, .bool false, .int .i64 0, .bool false] 72 (0, 0)) ∧
    OwnRows wr 50 5 (.slice b k cap) (List.replicate k Dsk.zeroSector) (From w.heap.size) ∧ Kept Nob w wr
def zero64 : Array Value := Array.replicate 64 (.int .u8 0)
theorem make64 (w : World) : (Instr.makeSlice 50 (.int .i64 64) (.int .i64 64)).run Tryz.prog w = .ok (.slice (some ⟨w.heap.size, 0, none⟩) 64 64) (w.alloc (.cells zero64 5)) := by kernel_rfl
theorem own_zero64 (w : World) : Own (w.alloc (.cells zero64 5)) 5 (.slice (some ⟨w.heap.size, 0, none⟩) 64 64) Dsk.zeroSector (From w.heap.size) :=
  ⟨⟨rfl, .inr ⟨w.heap.size, 64, zero64, rfl, Nat.zero_le _, heap_alloc_new w _, Nat.le_refl _, by unfold maxLen; omega, rfl, rfl⟩⟩, fun g hg => by simp [Value.ownBlock] at hg; simp [From]; omega⟩
theorem NewRel.step {w wr w2 : World} {k : Nat} {b : Option Addr} {cap : Nat} {vs : List Value} {g2 cap2 : Nat}
    (hb : wr.heap[w.heap.size]? = some (.cells #[.slice b k cap, .slice none 0 0, .slice none 0 0, .int .i64 0, .bool false, .int .i64 0, .bool false] 72 (0, 0)))
    (hrow : Own wr 50 (.slice b k cap) vs (From w.heap.size)) (hrows : RowsAt wr 5 vs (List.replicate k Dsk.zeroSector) (From w.heap.size)) (hk : Kept Nob w wr)
    (ho2 : Own w2 50 (.slice (some ⟨g2, 0, none⟩) (vs.length + 1) cap2) (vs ++ [.slice (some ⟨wr.heap.size, 0, none⟩) 64 64])
      (fun j => (Value.slice b k cap).ownBlock = some j ∨ ((wr.alloc (.cells zero64 5)).alloc (.cells #[.slice (some ⟨wr.heap.size, 0, none⟩) 64 64] 50)).drew.heap.size ≤ j))
    (hk2 : Kept (fun j => (Value.slice b k cap).ownBlock = some j) ((wr.alloc (.cells zero64 5)).alloc (.cells #[.slice (some ⟨wr.heap.size, 0, none⟩) 64 64] 50)).drew w2) :
    w2.cell? ⟨w.heap.size, 0, none⟩ = some (.slice b k cap) ∧ w2.frozen? ⟨w.heap.size, 0, none⟩ = false ∧ w.heap.size ≠ g2 ∧
    NewRel w (k + 1) (w2.setCell ⟨w.heap.size, 0, none⟩ (.slice (some ⟨g2, 0, none⟩) (vs.length + 1) cap2)) := by
  have hvl : vs.length = k := by rw [hrows.len]; simp
  have hlt : w.heap.size < wr.heap.size := (Array.getElem?_eq_some_iff.1 hb).1
  have hka : Kept Nob wr ((wr.alloc (.cells zero64 5)).alloc (.cells #[.slice (some ⟨wr.heap.size, 0, none⟩) 64 64] 50)).drew :=
    ((Kept.alloc Nob _ _).trans' (Kept.alloc Nob _ _)).trans' (Kept.drew Nob _)
  have hbo : (Value.slice b k cap).ownBlock ≠ some w.heap.size := hrow.not_in hb (by decide)
  have hk12 : Kept (fun j => (Value.slice b k cap).ownBlock = some j) wr w2 := hka.nob.trans' hk2
  have hb2 : w2.heap[w.heap.size]? = _ := (hk12.block _ hlt hbo).trans hb
  have hks := kept1 w2 w.heap.size 0 (.slice (some ⟨g2, 0, none⟩) (vs.length + 1) cap2)
  have hsz : wr.heap.size + 2 ≤ w2.heap.size := by have := hk2.size; simpa using this
  have hgo : Own w2 50 (.slice (some ⟨g2, 0, none⟩) (vs.length + 1) cap2) (vs ++ [.slice (some ⟨wr.heap.size, 0, none⟩) 64 64]) (From w.heap.size) := ho2.mono fun j _ h => by
    rcases h with h | h
    · exact hrow.2 j h
    · simp at h; simp [From]; omega
  have hzero : Own w2 5 (.slice (some ⟨wr.heap.size, 0, none⟩) 64 64) Dsk.zeroSector (From w.heap.size) := by
    have h1 := (((own_zero64 wr).alloc (.cells #[.slice (some ⟨wr.heap.size, 0, none⟩) 64 64] 50)).drew).keptT hk2 (fun j hj => by
      intro h
      simp [Value.ownBlock] at h
      have := hrow.blockLt hj
      omega)
    exact h1.mono (fun j _ hj => Nat.le_trans (Nat.le_of_lt hlt) hj)
  have hne2 : w.heap.size ≠ g2 := fun e => by
    have := hgo.not_in hb2 (by decide)
    rw [e] at this
    exact this rfl
  refine ⟨cell_at hb2 0 _ rfl, frozen_at hb2 0, hne2, some ⟨g2, 0, none⟩, cap2, ?_, ?_, ?_⟩
  · rw [← hvl]
    exact (heap_set w2 _ 0 _ _ _ hb2)
  · rw [← hvl]
    refine ⟨_, hgo.keptT hks (fun j hj => by rw [show j = w.heap.size from hj]; exact hgo.not_in hb2 (by decide)), ?_⟩
    have q : RowsAt w2 5 (vs ++ [.slice (some ⟨wr.heap.size, 0, none⟩) 64 64]) (List.replicate (vs.length + 1) Dsk.zeroSector) (From w.heap.size) := by
      rw [List.replicate_succ', hvl]
      refine RowsAt.snoc ⟨hrows.len, fun i u y a c => (hrows.own i u y a c).keptT hk12 (fun j hj => ?_), hrows.apart⟩ hzero fun i u j hu hj hj' => ?_
      · obtain ⟨cur, hc⟩ := hrow.blockIs hj
        exact (hrows.own i u y a c).not_in hc (by decide)
      · simp [Value.ownBlock] at hj'
        have hil : i < (List.replicate k Dsk.zeroSector).length := by rw [← hrows.len]; exact (List.getElem?_eq_some_iff.1 hu).1
        have := (hrows.own i u _ hu (List.getElem?_eq_getElem hil)).blockLt hj
        omega
    exact ⟨q.len, fun i u y a c => (q.own i u y a c).keptT hks (fun j hj => by rw [show j = w.heap.size from hj]; exact (q.own i u y a c).not_in hb2 (by decide)), q.apart⟩
  · have h1 : Kept (From w.heap.size) wr w2 := hk12.mono (fun j _ hj => hrow.2 j hj)
    have h2 : Kept (From w.heap.size) wr (w2.setCell ⟨w.heap.size, 0, none⟩ (.slice (some ⟨g2, 0, none⟩) (vs.length + 1) cap2)) := h1.trans' (hks.mono (fun j _ hj => by rw [show j = w.heap.size from hj]; exact Nat.le_refl _))
    exact hk.from (Nat.le_refl _) h2
theorem NewRel.done {w wr w1 : World} {n : Nat} (h1 : 1 ≤ n) (h2 : n ≤ 8192) {b b1 : Option Addr} {cap cap1 : Nat}
    (hb : wr.heap[w.heap.size]? = some (.cells #[.slice b n cap, .slice none 0 0, .slice none 0 0, .int .i64 0, .bool false, .int .i64 0, .bool false] 72 (0, 0)))
    (hr : OwnRows wr 50 5 (.slice b n cap) (List.replicate n Dsk.zeroSector) (From w.heap.size)) (hk : Kept Nob w wr)
    (ho1 : OwnRows w1 50 5 (.slice b1 (List.replicate n Dsk.zeroSector).length cap1) (List.replicate n Dsk.zeroSector) (From wr.heap.size)) (hk1 : Kept Nob wr w1) :
    w1.cell? ⟨w.heap.size, 1, none⟩ = some (.slice none 0 0) ∧ w1.frozen? ⟨w.heap.size, 1, none⟩ = false ∧
    DiskAt (w1.setCell ⟨w.heap.size, 1, none⟩ (.slice b1 (List.replicate n Dsk.zeroSector).length cap1)) w.heap.size (Dsk.fresh n) (fun k => w.heap.size ≤ k ∧ k < (w1.setCell ⟨w.heap.size, 1, none⟩ (.slice b1 (List.replicate n Dsk.zeroSector).length cap1)).heap.size) ∧
    Kept Nob w (w1.setCell ⟨w.heap.size, 1, none⟩ (.slice b1 (List.replicate n Dsk.zeroSector).length cap1)) := by
  have hlt : w.heap.size < wr.heap.size := (Array.getElem?_eq_some_iff.1 hb).1
  have hb1 : w1.heap[w.heap.size]? = _ := (hk1.block _ hlt (fun f => f)).trans hb
  have hks := kept1 w1 w.heap.size 1 (.slice b1 (List.replicate n Dsk.zeroSector).length cap1)
  have hsz : (w1.setCell ⟨w.heap.size, 1, none⟩ (.slice b1 (List.replicate n Dsk.zeroSector).length cap1)).heap.size = w1.heap.size := by simp [World.setCell]
  have hd : ∀ j, Just w.heap.size j → ∃ cs e' fz, w1.heap[j]? = some (.cells cs e' fz) ∧ e' ≠ 50 ∧ e' ≠ 5 := fun j hj => by
    rw [show j = w.heap.size from hj]; exact ⟨_, _, _, hb1, by decide, by decide⟩
  refine ⟨cell_at hb1 1 _ rfl, frozen_at hb1 1, ?_, ?_⟩
  · rw [hsz]
    refine ⟨_, _, _, heap_set w1 _ 1 _ _ _ hb1, ⟨Nat.le_refl _, Nat.lt_of_lt_of_le hlt hk1.size⟩, ?_, ?_, Own.nil _ _ _, ?_, Dsk.Wf.fresh h1 h2, fun k hk => hsz ▸ hk.2⟩
    · exact (((hr.kept hk1 (fun _ _ f => f)).keptT hks hd).mono fun k hk h => ⟨h, hsz ▸ hk⟩)
    · exact ((ho1.keptT hks hd).mono fun k hk h => ⟨Nat.le_trans (Nat.le_of_lt hlt) h, hsz ▸ hk⟩)
    · intro g hg hg'
      obtain ⟨vs, hv, _⟩ := hr
      obtain ⟨us, hu, _⟩ := ho1
      have := hv.blockLt hg
      have h3 : wr.heap.size ≤ g := hu.2 g hg'
      omega
  · have h3 : Kept (From w.heap.size) wr (w1.setCell ⟨w.heap.size, 1, none⟩ (.slice b1 (List.replicate n Dsk.zeroSector).length cap1)) := hk1.nob.trans' (hks.mono (fun j _ hj => by rw [show j = w.heap.size from hj]; exact Nat.le_refl _))
    exact hk.from (Nat.le_refl _) h3
def RetNew (w : World) (n : Nat) (en : Ending) (w' : World) : Prop :=
  ∃ b, en = .returned (.tuple #[.pointer (some ⟨b, 0, none⟩), .nilIface]) ∧ DiskAt w' b (Dsk.fresh n) (fun k => w.heap.size ≤ k ∧ k < w'.heap.size) ∧ Kept Nob w w'
set_option maxHeartbeats 1000000 in
theorem disk_new (w : World) (n : Nat) (h1 : 1 ≤ n) (h2 : n ≤ 8192) :
    Calls Tryz.prog 10 #[.int .i64 n] w (RetNew w n) := by
  have hmk := make64
  go_enter Tryz.func10, Tryz.ntmps10
  go_wp2
  go_loopw [17] (fun i wr => ∃ k : Nat, k ≤ n ∧ i = .int .i64 k ∧ NewRel w k wr) (fun i _ => n - (intOf i).toNat)
  case atStart => exact ⟨0, Nat.zero_le _, rfl, none, 0, heap_alloc_new w _, ⟨[], Own.nil _ _ _, RowsAt.nil _ _ _⟩, Kept.alloc _ _ _⟩
  case round =>
    obtain ⟨k, hk, rfl, b, cap, hb, ⟨vs, hrow, hrows⟩, hw⟩ := hrel
    by_cases hlt : k < n
    · have c0 := cell_at hb 0 _ rfl
      have hvl := Lib.hid (show vs.length = k by rw [hrows.len]; simp)
      have hsz : w.heap.size < wr.heap.size := (Array.getElem?_eq_some_iff.1 hb).1
      have HST := fun g2 cap2 w2 h1 h2 => Lib.hid (NewRel.step (g2 := g2) (cap2 := cap2) (w2 := w2) hb hrow hrows hw h1 h2)
      have HO := Lib.hid hrow
      clear hb hrow hrows hw
      go_wp2_with fail
      go_region_law ((refine step_append1_pg rfl _ _ 70 rfl tRows (.slice b k cap) vs (.slice (some ⟨wr.heap.size, 0, none⟩) 64 64) (From w.heap.size) ⟨wr.heap.size + 1, 0, none⟩ 1 rfl rfl ((HO.out.alloc _).alloc _).drew (by simp) rfl (Nat.le_refl _) rfl (by have := hvl.out; omega) ?_; intro g2 cap2 w2 ho2 hk2; have HQ := HST g2 cap2 w2 ho2 hk2; have q1 := HQ.out.1; have q2 := HQ.out.2.1))
      all_goals
        go_wp2
        go_roundw
        case rel => exact ⟨k + 1, by omega, by go_num, HQ.out.2.2.2⟩
        case measure => simp [intOf]; omega
    · obtain rfl : k = n := by omega
      have c0 := cell_at hb 0 _ rfl
      have hsz : w.heap.size < wr.heap.size := (Array.getElem?_eq_some_iff.1 hb).1
      have hrr : OwnRows wr 50 5 (.slice b k cap) (List.replicate k Dsk.zeroSector) (From w.heap.size) := ⟨vs, hrow, hrows⟩
      have hzs : ∀ x ∈ List.replicate k Dsk.zeroSector, x.length = 64 ∧ ∀ u ∈ x, IsByte u := (Dsk.Wf.fresh h1 h2).good
      have hcp := copied_any wr (.slice b k cap) (List.replicate k Dsk.zeroSector) _ hrr (by simp; omega) (fun x hx => ⟨by have := (hzs x hx).1; omega, (hzs x hx).2⟩)
      have HC := Lib.hid hcp
      have HB := Lib.hid hb
      have HW := Lib.hid hw
      have HR := Lib.hid hrr
      have HST := fun b1 cap1 w1 h1' h2' => Lib.hid (NewRel.done (b1 := b1) (cap1 := cap1) (w1 := w1) h1 h2 hb hrr hw h1' h2')
      clear hb hrow hrows hw hrr hzs hcp
      go_wp2_with (go_at_call 32; refine HC.out.mono ?_; rintro e w1 ⟨b1, cap1, rfl, ho1, hk1⟩; have HQ := HST b1 cap1 w1 ho1 hk1; have q1 := HQ.out.1; have q2 := HQ.out.2.1)
      go_ret2
      have HQ' := HQ.out
      simp only [List.length_replicate] at HQ'
      exact ⟨_, rfl, HQ'.2.2.1, HQ'.2.2.2⟩
theorem RowsAt.turn {w w2 : World} {e : TypeId} {vs : List Value} {xss : List (List Value)} {F : Nat → Prop} (h : RowsAt w e vs xss F) {a g : Nat} {v : Value} {x : List Value} (ha : vs[a]? = some v) (hg : v.ownBlock = some g)
    (h2 : Own w2 e v x F) (hk : Kept (Just g) w w2) : RowsAt w2 e vs (xss.set a x) F := by
  refine ⟨by rw [h.len]; simp, fun i u y c1 c2 => ?_, h.apart⟩
  rw [List.getElem?_set] at c2
  split at c2
  · rename_i he
    subst he
    split at c2
    · simp at c2
      subst c2
      rw [ha] at c1
      simp at c1
      subst c1
      exact h2
    · simp at c2
  · rename_i he
    refine (h.own i u y c1 c2).keptT hk fun j hj hu => he ?_
    rw [show j = g from hj] at hu
    exact (h.apart a i v u g ha c1 hg hu)
theorem laid_torn {xs ys : List Value} (h : ys.length = 64) : laid xs 0 64 (ys.take 32) = ys.take 32 ++ xs.drop 32 := by
  have e1 : (ys.take 32).length = 32 := by simp only [List.length_take]; omega
  rw [laid, e1, List.take_of_length_le (l := ys.take 32) (by omega)]
  simp
theorem laid_full {xs ys : List Value} (h : ys.length = 64) (h2 : xs.length = 64) : laid xs 0 64 ys = ys := by
  rw [laid, h, List.take_of_length_le (l := ys) (by omega), List.drop_of_length_le (l := xs) (by omega)]
  simp
def CrashRel (w : World) (bo : Nat) (d : Dsk) (keep : List Bool) (torn : Int) (k : Nat) (wr : World) : Prop :=
  ∃ b cap, wr.heap[bo]? = some (.cells #[.slice b d.good.length cap, .slice none 0 0, .slice none 0 0, .int .i64 0, .bool false, .int .i64 0, .bool false] 72 (0, 0)) ∧
    OwnRows wr 50 5 (.slice b d.good.length cap) (Dsk.bites d.now keep torn (d.order.take k) 0 d.good) (From w.heap.size) ∧ w.heap.size ≤ bo ∧ Kept Nob w wr
structure CrashFacts (w : World) (b bo : Nat) (d : Dsk) (keep : List Bool) (torn : Int) (k a : Nat) (wr : World) (g0 c0 gs cs gn cn gk ck : Nat) : Prop where
  cA : wr.cell? ⟨bo, 0, none⟩ = some (.slice (some ⟨g0, 0, none⟩) d.good.length c0)
  cB : wr.cell? ⟨g0, a, none⟩ = some (.slice (some ⟨gs, 0, none⟩) 64 cs)
  cC : wr.cell? ⟨b, 1, none⟩ = some (.slice (some ⟨gn, 0, none⟩) d.good.length cn)
  cD : wr.cell? ⟨gn, a, none⟩ = some (.slice (some ⟨gk, 0, none⟩) 64 ck)
  hck : 64 ≤ ck
  old : Own wr 5 (.slice (some ⟨gs, 0, none⟩) 64 cs) ((Dsk.bites d.now keep torn (d.order.take k) 0 d.good).getD a []) (From w.heap.size)
  src : Reads wr (.slice (some ⟨gk, 0, none⟩) 64 ck) (d.now.getD a []) (fun _ => True)
  fin : ∀ w2 x, Own w2 5 (.slice (some ⟨gs, 0, none⟩) 64 cs) x (From w.heap.size) → Kept (Just gs) wr.drew w2 →
    w2.cell? ⟨bo, 0, none⟩ = some (.slice (some ⟨g0, 0, none⟩) d.good.length c0) ∧ w2.cell? ⟨g0, a, none⟩ = some (.slice (some ⟨gs, 0, none⟩) 64 cs) ∧
    w2.cell? ⟨b, 1, none⟩ = some (.slice (some ⟨gn, 0, none⟩) d.good.length cn) ∧ w2.cell? ⟨gn, a, none⟩ = some (.slice (some ⟨gk, 0, none⟩) 64 ck) ∧
    ((Dsk.bites d.now keep torn (d.order.take k) 0 d.good).set a x = Dsk.bites d.now keep torn (d.order.take (k + 1)) 0 d.good → CrashRel w bo d keep torn (k + 1) w2)
theorem CrashRel.facts {w : World} {b bo : Nat} {d : Dsk} {F : Nat → Prop} {keep : List Bool} {torn : Int} {k a : Nat} {wr : World} (hD : DiskAt wr b d F) (h : CrashRel w bo d keep torn k wr) (hk : k < d.order.length)
    (ha : d.order[k] = (a : Int)) : ∃ g0 c0 gs cs gn cn gk ck, CrashFacts w b bo d keep torn k a wr g0 c0 gs cs gn cn gk ck := by
  obtain ⟨gv, nv, ov, hb, hbF, hg, ⟨ns, hn, hn2⟩, ho, hap, hw, hu⟩ := hD
  obtain ⟨b0, c0, hbo, ⟨vs, hv, hv2⟩, hbo2, hkw⟩ := h
  have hal : a < d.good.length := by
    have := hw.order _ (List.getElem_mem hk)
    omega
  have hbl := Dsk.bites_length d.now keep torn (d.order.take k) 0 d.good
  have hvl : vs.length = d.good.length := by rw [hv2.len, hbl]
  have hnl : ns.length = d.good.length := by rw [hn2.len, hw.len]
  have hS : Dsk.Sectors (Dsk.bites d.now keep torn (d.order.take k) 0 d.good) := Dsk.Sectors.bites hw.now _ _ _ (fun j hj => by rw [hw.len]; exact hw.order j (List.mem_of_mem_take hj)) hw.len hw.good
  have hav : a < vs.length := by omega
  have han : a < ns.length := by omega
  have hab : a < (Dsk.bites d.now keep torn (d.order.take k) 0 d.good).length := by omega
  have hannow : a < d.now.length := by rw [hw.len]; exact hal
  obtain ⟨g0, rfl⟩ : ∃ g0, b0 = some ⟨g0, 0, none⟩ := by
    rcases hv.shape with ⟨_, hz⟩ | ⟨g, c', cur, hx, _⟩
    · simp [hz] at hav
    · simp at hx; exact ⟨g, hx.1⟩
  obtain ⟨gn, cn, rfl⟩ : ∃ gn cn, nv = .slice (some ⟨gn, 0, none⟩) d.good.length cn := by
    rcases hn.shape with ⟨_, hz⟩ | ⟨g, c', cur, hx, _⟩
    · simp [hz] at han
    · exact ⟨g, c', by rw [hx, hnl]⟩
  have o1 := hv2.own a vs[a] _ (List.getElem?_eq_getElem hav) (List.getElem?_eq_getElem hab)
  have o2 := hn2.own a ns[a] _ (List.getElem?_eq_getElem han) (List.getElem?_eq_getElem hannow)
  have s1 := hS _ (List.getElem_mem hab)
  have s2 := hw.now _ (List.getElem_mem hannow)
  obtain ⟨gs, cs, e1⟩ : ∃ gs cs, vs[a] = .slice (some ⟨gs, 0, none⟩) 64 cs := by
    rcases o1.shape with ⟨_, hz⟩ | ⟨g, c', cur, hx, _⟩
    · rw [hz] at s1; simp at s1
    · exact ⟨g, c', by rw [hx, s1.1]⟩
  obtain ⟨gk, ck, e2, hck⟩ : ∃ gk ck, ns[a] = .slice (some ⟨gk, 0, none⟩) 64 ck ∧ 64 ≤ ck := by
    rcases o2.shape with ⟨_, hz⟩ | ⟨g, c', cur, hx, _, _, hc, _⟩
    · rw [hz] at s2; simp at s2
    · exact ⟨g, c', by rw [hx, s2.1], by rw [← s2.1]; exact hc⟩
  have d1 : (Dsk.bites d.now keep torn (d.order.take k) 0 d.good).getD a [] = (Dsk.bites d.now keep torn (d.order.take k) 0 d.good)[a] := by rw [List.getD_eq_getElem?_getD, List.getElem?_eq_getElem hab]; rfl
  have d2 : d.now.getD a [] = d.now[a] := by rw [List.getD_eq_getElem?_getD, List.getElem?_eq_getElem hannow]; rfl
  rw [e1] at o1
  rw [e2] at o2
  have cA := cell_at hbo 0 _ rfl
  have cB := hv.cell a _ (List.getElem?_eq_getElem hav)
  have cC := cell_at hb 1 _ rfl
  have cD := hn.cell a _ (List.getElem?_eq_getElem han)
  rw [e1] at cB
  rw [e2] at cD
  refine ⟨g0, c0, gs, cs, gn, cn, gk, ck, ⟨cA, cB, cC, cD, hck, by rw [d1]; exact o1, by rw [d2]; exact o2.reads.mono (fun _ _ _ => trivial), fun w2 x h2 hk2 => ?_⟩⟩
  obtain ⟨cur, hgs⟩ := o1.blockIs (g := gs) rfl
  have far : ∀ (p : Nat) (i : Nat) (v : Value) (c : Array Value) (e : TypeId) (fz : Nat × Nat), wr.heap[p]? = some (.cells c e fz) → e ≠ 5 → wr.cell? ⟨p, i, none⟩ = some v → w2.cell? ⟨p, i, none⟩ = some v := by
    intro p i v c e fz hp he hc
    have hne : p ≠ gs := fun e' => by subst e'; rw [hgs] at hp; simp at hp; exact he hp.2.1.symm
    exact (hk2.cell (w := wr.drew) (p := ⟨p, i, none⟩) (Array.getElem?_eq_some_iff.1 hp).1 hne).trans hc
  obtain ⟨cur0, h0⟩ := hv.blockIs (g := g0) rfl
  obtain ⟨cur1, h1⟩ := hn.blockIs (g := gn) rfl
  refine ⟨far bo 0 _ _ _ _ hbo (by decide) cA, far g0 a _ _ _ _ h0 (by decide) cB, far b 1 _ _ _ _ hb (by decide) cC, far gn a _ _ _ _ h1 (by decide) cD, fun heq => ?_⟩
  have hne : ∀ (p : Nat) (c : Array Value) (e : TypeId) (fz : Nat × Nat), wr.heap[p]? = some (.cells c e fz) → e ≠ 5 → w2.heap[p]? = wr.heap[p]? := fun p c e fz hp he =>
    hk2.block (w := wr.drew) p (Array.getElem?_eq_some_iff.1 hp).1 (fun e' => by rw [show p = gs from e', hgs] at hp; simp at hp; exact he hp.2.1.symm)
  refine ⟨_, c0, (hne bo _ _ _ hbo (by decide)).trans hbo, ⟨vs, hv.drew.keptT hk2 (fun j hj => ?_), ?_⟩, hbo2, ?_⟩
  · rw [show j = gs from hj]; exact hv.not_in hgs (by decide)
  · rw [← heq]
    exact hv2.drew.turn (List.getElem?_eq_getElem hav) (by rw [e1]; rfl) (by rw [e1]; exact h2) hk2
  · exact hkw.from (Nat.le_refl _) ((Kept.drew (From w.heap.size) wr).trans' (hk2.mono (fun j _ hj => by rw [show j = gs from hj]; exact o1.2 gs rfl)))
theorem bites_next (d : Dsk) (keep : List Bool) (torn : Int) (k a : Nat) (hk : k < d.order.length) (ha : d.order[k] = (a : Int)) :
    Dsk.bites d.now keep torn (d.order.take (k + 1)) 0 d.good = Dsk.bite d.now keep torn k a (Dsk.bites d.now keep torn (d.order.take k) 0 d.good) := by
  rw [List.take_succ_eq_append_getElem hk, Dsk.bites_snoc, ha]
  have : (List.take k d.order).length = k := by simp only [List.length_take]; omega
  rw [this]; simp
theorem CrashRel.same {w : World} {bo : Nat} {d : Dsk} {keep : List Bool} {torn : Int} {k : Nat} {wr : World} (h : CrashRel w bo d keep torn k wr)
    (he : Dsk.bites d.now keep torn (d.order.take (k + 1)) 0 d.good = Dsk.bites d.now keep torn (d.order.take k) 0 d.good) : CrashRel w bo d keep torn (k + 1) wr := by
  obtain ⟨b, c, h1, h2, h3⟩ := h
  exact ⟨b, c, h1, by rw [he]; exact h2, h3⟩
theorem disk_made {w wr w1 : World} {bo n : Nat} {g : List (List Value)} {b b1 : Option Addr} {cap cap1 : Nat}
    (hb : wr.heap[bo]? = some (.cells #[.slice b n cap, .slice none 0 0, .slice none 0 0, .int .i64 0, .bool false, .int .i64 0, .bool false] 72 (0, 0)))
    (hr : OwnRows wr 50 5 (.slice b n cap) g (From w.heap.size)) (hbo : w.heap.size ≤ bo) (hk : Kept Nob w wr) (hw : (⟨g, g, [], 0, false, 0, false⟩ : Dsk).Wf)
    (ho1 : OwnRows w1 50 5 (.slice b1 g.length cap1) g (From wr.heap.size)) (hk1 : Kept Nob wr w1) :
    w1.cell? ⟨bo, 1, none⟩ = some (.slice none 0 0) ∧ w1.frozen? ⟨bo, 1, none⟩ = false ∧
    DiskAt (w1.setCell ⟨bo, 1, none⟩ (.slice b1 g.length cap1)) bo ⟨g, g, [], 0, false, 0, false⟩ (fun k => w.heap.size ≤ k ∧ k < (w1.setCell ⟨bo, 1, none⟩ (.slice b1 g.length cap1)).heap.size) ∧
    Kept Nob w (w1.setCell ⟨bo, 1, none⟩ (.slice b1 g.length cap1)) := by
  have hlt : bo < wr.heap.size := (Array.getElem?_eq_some_iff.1 hb).1
  have hb1 : w1.heap[bo]? = _ := (hk1.block _ hlt (fun f => f)).trans hb
  have hks := kept1 w1 bo 1 (.slice b1 g.length cap1)
  have hsz : (w1.setCell ⟨bo, 1, none⟩ (.slice b1 g.length cap1)).heap.size = w1.heap.size := by simp [World.setCell]
  have hd : ∀ j, Just bo j → ∃ cs e' fz, w1.heap[j]? = some (.cells cs e' fz) ∧ e' ≠ 50 ∧ e' ≠ 5 := fun j hj => by
    rw [show j = bo from hj]; exact ⟨_, _, _, hb1, by decide, by decide⟩
  have hs := hk.size
  refine ⟨cell_at hb1 1 _ rfl, frozen_at hb1 1, ?_, ?_⟩
  · rw [hsz]
    refine ⟨_, _, _, heap_set w1 _ 1 _ _ _ hb1, ⟨hbo, Nat.lt_of_lt_of_le hlt hk1.size⟩, ?_, ?_, Own.nil _ _ _, ?_, hw, fun k hk => hsz ▸ hk.2⟩
    · exact (((hr.kept hk1 (fun _ _ f => f)).keptT hks hd).mono fun k hk h => ⟨h, hsz ▸ hk⟩)
    · exact ((ho1.keptT hks hd).mono fun k hk h => ⟨Nat.le_trans hs h, hsz ▸ hk⟩)
    · intro g hg hg'
      obtain ⟨vs, hv, _⟩ := hr
      obtain ⟨us, hu, _⟩ := ho1
      have := hv.blockLt hg
      have h3 : wr.heap.size ≤ g := hu.2 g hg'
      omega
  · have h3 : Kept (From w.heap.size) wr (w1.setCell ⟨bo, 1, none⟩ (.slice b1 g.length cap1)) := hk1.nob.trans' (hks.mono (fun j _ hj => by rw [show j = bo from hj]; exact hbo))
    exact hk.from (Nat.le_refl _) h3
def RetDisk (w : World) (d : Dsk) (en : Ending) (w' : World) : Prop :=
  ∃ b, en = .returned (.pointer (some ⟨b, 0, none⟩)) ∧ DiskAt w' b d (fun k => w.heap.size ≤ k ∧ k < w'.heap.size) ∧ Kept Nob w w'
set_option maxHeartbeats 1000000 in
theorem disk_crash (w : World) (b : Nat) (d : Dsk) (F : Nat → Prop) (h : DiskAt w b d F) (kv : Value) (keep : List Bool) (G : Nat → Prop) (hkeep : Reads w kv (keep.map Value.bool) G) (hkl : keep.length < 1000000000) (torn : Int) :
    Calls Tryz.prog 25 #[.pointer (some ⟨b, 0, none⟩), kv, .int .i64 torn] w (RetDisk w (d.crash keep torn)) := by
  have HG := Lib.hid (disk_gone w b d F h)
  have HD := Lib.hid h
  have HKp := Lib.hid hkeep
  obtain ⟨ka, kc, rfl, _⟩ := hkeep.shape
  simp only [List.length_map]
  obtain ⟨gv, nv, ov, hb, hbF, hg, hn, ho, hap, hw, hu⟩ := h
  have hcp := copied_any w gv d.good F hg (by have := hw.most; omega) (fun x hx => ⟨by have := (hw.good x hx).1; omega, (hw.good x hx).2⟩)
  obtain ⟨vs, hgv, hgr⟩ := hg
  obtain ⟨ga, gc, rfl, _⟩ := hgv.reads.shape
  obtain ⟨oa, oc, rfl, _⟩ := ho.reads.shape
  have c0 := cell_at hb 0 _ rfl
  have c2 := cell_at hb 2 _ rfl
  have HC := Lib.hid hcp
  have HU := Lib.hid hu
  have HF := Lib.hid hbF
  have HW := Lib.hid hw
  have HO := Lib.hid ho
  have HB := Lib.hid hb
  have hol := hw.orderLen
  clear hb hbF hgv hgr hn ho hap hw hu hcp hkeep
  simp only [List.length_map] at c2 HO
  generalize vs.length = nv' at *
  go_enter Tryz.func25, Tryz.ntmps25
  go_wp2_with (first | (go_at_call 40; refine HG.out.mono ?_; rintro e w' ⟨rfl, rfl⟩) | (go_at_call 32; refine HC.out.mono ?_; rintro e w1 ⟨b1, cap1, rfl, ho1, hk1⟩; have c2' := (hk1.cell (p := ⟨b, 2, none⟩) (HU.out b HF.out) (fun f => f)).trans c2; have hb1 : b < w1.heap.size := Nat.lt_of_lt_of_le (HU.out b HF.out) hk1.size))
  have hrel0 : CrashRel w w1.heap.size d keep torn 0 (w1.alloc (.cells #[.slice b1 d.good.length cap1, .slice none 0 0, .slice none 0 0, .int .i64 0, .bool false, .int .i64 0, .bool false] 72)) :=
    ⟨b1, cap1, heap_alloc_new w1 _, ho1.kept (Kept.alloc Nob w1 _) (fun _ _ f => f), hk1.size, hk1.trans' (Kept.alloc Nob w1 _)⟩
  have HR0 := Lib.hid hrel0
  clear hrel0 ho1 c2' c2 HB c0 HC
  generalize w1.heap.size = bo at *
  go_loopw [24] (fun i wr => ∃ k : Nat, k ≤ d.order.length ∧ i = .int .i64 k ∧ CrashRel w bo d keep torn k wr) (fun i _ => d.order.length - (intOf i).toNat)
  case atStart => exact ⟨0, Nat.zero_le _, rfl, HR0.out⟩
  case round =>
    obtain ⟨k, hk, rfl, hC⟩ := hrel
    by_cases hlt : k < d.order.length
    · have hkw : Kept Nob w wr := by obtain ⟨_, _, _, _, _, h⟩ := hC; exact h
      have hDr : DiskAt wr b d F := HD.out.kept hkw (fun _ _ f => f)
      obtain ⟨a, ha⟩ : ∃ a : Nat, d.order[k] = (a : Int) := ⟨d.order[k].toNat, by have := (HW.out.order _ (List.getElem_mem hlt)).1; omega⟩
      have hal : a < d.good.length := by have := HW.out.order _ (List.getElem_mem hlt); omega
      obtain ⟨g0, c0, gs, cs, gn, cn, gk, ck, hf⟩ := CrashRel.facts hDr hC hlt ha
      obtain ⟨go, rfl⟩ : ∃ go, oa = some ⟨go, 0, none⟩ := by
        rcases HO.out.shape with ⟨hx, hz⟩ | ⟨g, c', cur, hx, _⟩
        · simp at hz; rw [hz] at hlt; simp at hlt
        · simp at hx; exact ⟨g, hx.1⟩
      have co : wr.cell? ⟨go, k, none⟩ = some (.int .i64 a) := (HO.out.kept hkw (fun _ _ f => f)).cell k _ (by rw [List.getElem?_map, List.getElem?_eq_getElem hlt, ha]; rfl)
      have hbx := bites_next d keep torn k a hlt ha
      have cA := hf.cA
      have cB := hf.cB
      have cC := hf.cC
      have cD := hf.cD
      have hck := hf.hck
      have hck2 : (32 : Int) ≤ (ck : Int) := by omega
      have HFf := Lib.hid hf
      have HBx := Lib.hid hbx
      have HA := Lib.hid ha
      have HC' := Lib.hid hC
      have a0 : (0 : Int) ≤ (a : Int) := Int.natCast_nonneg _
      have a1 : (a : Int) < (d.good.length : Int) := by omega
      clear hf hbx ha hC hDr hkw
      have hN : (d.now.getD a []).length = 64 ∧ ∀ u ∈ d.now.getD a [], IsByte u := Dsk.Sectors.getD HW.out.now (by rw [HW.out.len]; exact hal)
      have hO : ((Dsk.bites d.now keep torn (d.order.take k) 0 d.good).getD a []).length = 64 := (Dsk.Sectors.getD (Dsk.Sectors.bites HW.out.now _ _ _ (fun j hj => by rw [HW.out.len]; exact HW.out.order j (List.mem_of_mem_take hj)) HW.out.len HW.out.good) (by rw [Dsk.bites_length]; exact hal)).1
      have HN := Lib.hid hN
      have HOl := Lib.hid hO
      clear hN hO
      by_cases ht : (k : Int) = torn
      · have htb : ((k : Int) == torn) = true := by simpa using ht
        have HEQ : Hid ((Dsk.bites d.now keep torn (d.order.take k) 0 d.good).set a (laid ((Dsk.bites d.now keep torn (d.order.take k) 0 d.good).getD a []) 0 64 ((d.now.getD a []).take 32)) = Dsk.bites d.now keep torn (d.order.take (k + 1)) 0 d.good) := by
          show _ = _
          rw [HBx.out, Dsk.bite, if_pos ht, laid_torn HN.out.1]
        clear ht
        go_wp2_with fail
        go_region_held3 (fun w' => w'.cell? ⟨bo, 0, none⟩ = some (.slice (some ⟨g0, 0, none⟩) d.good.length c0) ∧ w'.cell? ⟨g0, a, none⟩ = some (.slice (some ⟨gs, 0, none⟩) 64 cs) ∧ w'.cell? ⟨b, 1, none⟩ = some (.slice (some ⟨gn, 0, none⟩) d.good.length cn) ∧ w'.cell? ⟨gn, a, none⟩ = some (.slice (some ⟨gk, 0, none⟩) 64 ck)) (go_keep)
          ((refine step_copy_pg rfl _ _ 50 50 rfl tBytes (.slice (some ⟨gk, 0, none⟩) 32 ck) ((Dsk.bites d.now keep torn (d.order.take k) 0 d.good).getD a []) ((d.now.getD a []).take 32) (From w.heap.size) (fun _ => True) gs 64 cs 0 64 cs rfl rfl HFf.out.old.drew (HFf.out.src.take 32 (by have := HN.out.1; omega) (by have := HN.out.1; omega)).drew (by have := HOl.out; omega) (fun u hu => (HN.out.2 u (List.mem_of_mem_take hu)).one) ?_; intro w2 ho2 hk2; have HQ := Lib.hid (HFf.out.fin w2 _ ho2 hk2); have q1 := HQ.out.1; have q2 := HQ.out.2.1; have q3 := HQ.out.2.2.1; have q4 := HQ.out.2.2.2.1))
        go_wp2
        go_roundw
        case rel => exact ⟨k + 1, by omega, by go_num, HQ.out.2.2.2.2 HEQ.out⟩
        case measure => simp [intOf]; omega
      · have htb : ((k : Int) == torn) = false := by simpa using ht
        have hne : keep = [] ∨ (keep ≠ [] ∧ ∃ gq oq, ka = some ⟨gq, oq, none⟩ ∧ k % keep.length < keep.length ∧ wr.cell? ⟨gq, oq + k % keep.length, none⟩ = some (.bool (keep.getD (k % keep.length) false))) := by
          by_cases he : keep = []
          · exact .inl he
          · refine .inr ⟨he, ?_⟩
            have hpos : 0 < keep.length := List.length_pos_iff.2 he
            have hml := Nat.mod_lt k hpos
            have hkw : Kept Nob w wr := by obtain ⟨_, _, _, _, _, h⟩ := HC'.out; exact h
            rcases HKp.out.kept hkw (fun _ _ f => f) with ⟨hz, _⟩ | ⟨gq, oq, cq, hx, _, _, _, hc⟩
            · simp at hz; exact absurd hz he
            · simp only [Value.slice.injEq] at hx
              refine ⟨gq, oq, hx.1, hml, hc _ _ ?_⟩
              rw [List.getElem?_map, List.getElem?_eq_getElem hml, List.getD_eq_getElem?_getD, List.getElem?_eq_getElem hml]
              rfl
        have HBS : keep = [] ∨ keep.getD (k % keep.length) false = false → Hid (Dsk.bites d.now keep torn (d.order.take (k + 1)) 0 d.good = Dsk.bites d.now keep torn (d.order.take k) 0 d.good) := fun h => by
          show _ = _
          rw [HBx.out, Dsk.bite, if_neg ht, if_neg (fun hh => by rcases h with h | h; exact hh.1 h; rw [h] at hh; exact absurd hh.2 (by simp))]
        have HBT : keep ≠ [] → keep.getD (k % keep.length) false = true → Hid ((Dsk.bites d.now keep torn (d.order.take k) 0 d.good).set a (laid ((Dsk.bites d.now keep torn (d.order.take k) 0 d.good).getD a []) 0 64 (d.now.getD a [])) = Dsk.bites d.now keep torn (d.order.take (k + 1)) 0 d.good) := fun h1 h2 => by
          show _ = _
          rw [HBx.out, Dsk.bite, if_neg ht, if_pos ⟨h1, h2⟩, laid_full HN.out.1 HOl.out]
        clear ht
        rcases hne with he | ⟨he, gq, oq, rfl, hml, cq⟩
        · have hl0 : decide (0 < keep.length) = false := by simp [he]
          have HE := HBS (.inl he)
          clear HBS HBT he
          go_wp2_with fail
          go_roundw
          case rel => exact ⟨k + 1, by omega, by go_num, HC'.out.same HE.out⟩
          case measure => simp [intOf]; omega
        · have hl0 : decide (0 < keep.length) = true := by simp; exact List.length_pos_iff.2 he
          have hlp : 0 < keep.length := List.length_pos_iff.2 he
          obtain ⟨m, hm⟩ : ∃ m, k % keep.length = m := ⟨_, rfl⟩
          have hmod : (k : Int) % (keep.length : Int) = (m : Int) := by rw [← hm]; rfl
          rw [hm] at hml cq HBS HBT
          clear hm
          cases hv : keep.getD m false
          · have HE := HBS (.inr hv)
            rw [hv] at cq
            clear HBS HBT he hv
            go_wp2_with fail
            go_roundw
            case rel => exact ⟨k + 1, by omega, by go_num, HC'.out.same HE.out⟩
            case measure => simp [intOf]; omega
          · have HEQ := HBT he hv
            rw [hv] at cq
            clear HBS HBT he hv
            go_wp2_with fail
            go_region_held3 (fun w' => w'.cell? ⟨bo, 0, none⟩ = some (.slice (some ⟨g0, 0, none⟩) d.good.length c0) ∧ w'.cell? ⟨g0, a, none⟩ = some (.slice (some ⟨gs, 0, none⟩) 64 cs) ∧ w'.cell? ⟨b, 1, none⟩ = some (.slice (some ⟨gn, 0, none⟩) d.good.length cn) ∧ w'.cell? ⟨gn, a, none⟩ = some (.slice (some ⟨gk, 0, none⟩) 64 ck)) (go_keep)
              ((refine step_copy_pg rfl _ _ 50 50 rfl tBytes (.slice (some ⟨gk, 0, none⟩) 64 ck) ((Dsk.bites d.now keep torn (d.order.take k) 0 d.good).getD a []) (d.now.getD a []) (From w.heap.size) (fun _ => True) gs 64 cs 0 64 cs rfl rfl HFf.out.old.drew HFf.out.src.drew (by have := HOl.out; omega) (fun u hu => (HN.out.2 u hu).one) ?_; intro w2 ho2 hk2; have HQ := Lib.hid (HFf.out.fin w2 _ ho2 hk2); have q1 := HQ.out.1; have q2 := HQ.out.2.1; have q3 := HQ.out.2.2.1; have q4 := HQ.out.2.2.2.1))
            go_wp2
            go_roundw
            case rel => exact ⟨k + 1, by omega, by go_num, HQ.out.2.2.2.2 HEQ.out⟩
            case measure => simp [intOf]; omega
    · obtain rfl : k = d.order.length := by omega
      obtain ⟨b2, cap2, hbo, hrows, hbow, hkw⟩ := hC
      rw [List.take_length] at hrows
      have hwf := HW.out.crash keep torn
      have hlen : (Dsk.bites d.now keep torn d.order 0 d.good).length = d.good.length := Dsk.bites_length _ _ _ _ _ _
      have cA := cell_at hbo 0 _ rfl
      have hcp := copied_any wr _ _ _ hrows (by rw [hlen]; have := HW.out.most; omega) (fun x hx => ⟨by have := (hwf.good x hx).1; omega, (hwf.good x hx).2⟩)
      have HC := Lib.hid hcp
      have HST := fun b1 cap1 w2 h1' h2' => Lib.hid (disk_made (b1 := b1) (cap1 := cap1) (w1 := w2) hbo hrows hbow hkw hwf h1' h2')
      have HCR : Hid ((⟨Dsk.bites d.now keep torn d.order 0 d.good, Dsk.bites d.now keep torn d.order 0 d.good, [], 0, false, 0, false⟩ : Dsk) = d.crash keep torn) := rfl
      clear hbo hrows hbow hkw hwf hlen hcp HR0
      generalize Dsk.bites d.now keep torn d.order 0 d.good = gg at *
      go_wp2_with (go_at_call 32; refine HC.out.mono ?_; rintro e w2 ⟨b3, cap3, rfl, ho3, hk3⟩; have HQ := HST b3 cap3 w2 ho3 hk3; have q1 := HQ.out.1; have q2 := HQ.out.2.1)
      go_ret
      rw [← HCR.out]
      exact ⟨bo, rfl, HQ.out.2.2.1, HQ.out.2.2.2⟩
end Go.Proofs.YthppgchmamonnaaGreatDoor
