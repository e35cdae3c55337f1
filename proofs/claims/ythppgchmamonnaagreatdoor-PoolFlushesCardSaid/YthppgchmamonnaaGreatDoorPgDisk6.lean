/- Disk: Crash. -/
import Derived.Test.YthppgchmamonnaaGreatDoorPgDisk5
import Derived.Test.YthppgchmamonnaaGreatDoorPgReads
namespace Go.Proofs.YthppgchmamonnaaGreatDoor
open Go.RowKit

/-- one of the rows is written in place -/
theorem RowsAt.turn {w w2 : World} {e : TypeId} {vs : List Value} {xss : List (List Value)} {F : Nat → Prop} (h : RowsAt w e vs xss F) {a g : Nat} {v : Value} {x : List Value} (ha : vs[a]? = some v) (hg : v.ownBlock = some g)
    (h2 : Own w2 e v x F) (hk : Kept (Just g) w w2) : RowsAt w2 e vs (xss.set a x) F := by
  refine ⟨by rw [h.len]; simp, fun i u y c1 c2 => ?_, h.apart⟩
  rw [List.getElem?_set] at c2
  split at c2
  · rename_i he
    subst he
    split at c2
    · simp at c2
      subst c2
      rw [ha] at c1
      simp at c1
      subst c1
      exact h2
    · simp at c2
  · rename_i he
    refine (h.own i u y c1 c2).keptT hk fun j hj hu => he ?_
    rw [show j = g from hj] at hu
    exact (h.apart a i v u g ha c1 hg hu)

theorem laid_torn {xs ys : List Value} (h : ys.length = 64) : laid xs 0 64 (ys.take 32) = ys.take 32 ++ xs.drop 32 := by
  have e1 : (ys.take 32).length = 32 := by simp only [List.length_take]; omega
  rw [laid, e1, List.take_of_length_le (l := ys.take 32) (by omega)]
  simp
theorem laid_full {xs ys : List Value} (h : ys.length = 64) (h2 : xs.length = 64) : laid xs 0 64 ys = ys := by
  rw [laid, h, List.take_of_length_le (l := ys) (by omega), List.drop_of_length_le (l := xs) (by omega)]
  simp
/-- what Crash's loop keeps: the new disk, so far -/
def CrashRel (w : World) (bo : Nat) (d : Dsk) (keep : List Bool) (torn : Int) (k : Nat) (wr : World) : Prop :=
  ∃ b cap, wr.heap[bo]? = some (.cells #[.slice b d.good.length cap, .slice none 0 0, .slice none 0 0, .int .i64 0, .bool false, .int .i64 0, .bool false] 72 (0, 0)) ∧
    OwnRows wr 50 5 (.slice b d.good.length cap) (Dsk.bites d.now keep torn (d.order.take k) 0 d.good) (From w.heap.size) ∧ w.heap.size ≤ bo ∧ Kept Nob w wr

/-- all that the walk wants to know in a round of Crash -/
structure CrashFacts (w : World) (b bo : Nat) (d : Dsk) (keep : List Bool) (torn : Int) (k a : Nat) (wr : World) (g0 c0 gs cs gn cn gk ck : Nat) : Prop where
  cA : wr.cell? ⟨bo, 0, none⟩ = some (.slice (some ⟨g0, 0, none⟩) d.good.length c0)
  cB : wr.cell? ⟨g0, a, none⟩ = some (.slice (some ⟨gs, 0, none⟩) 64 cs)
  cC : wr.cell? ⟨b, 1, none⟩ = some (.slice (some ⟨gn, 0, none⟩) d.good.length cn)
  cD : wr.cell? ⟨gn, a, none⟩ = some (.slice (some ⟨gk, 0, none⟩) 64 ck)
  hck : 64 ≤ ck
  old : Own wr 5 (.slice (some ⟨gs, 0, none⟩) 64 cs) ((Dsk.bites d.now keep torn (d.order.take k) 0 d.good).getD a []) (From w.heap.size)
  src : Reads wr (.slice (some ⟨gk, 0, none⟩) 64 ck) (d.now.getD a []) (fun _ => True)
  fin : ∀ w2 x, Own w2 5 (.slice (some ⟨gs, 0, none⟩) 64 cs) x (From w.heap.size) → Kept (Just gs) wr.drew w2 →
    w2.cell? ⟨bo, 0, none⟩ = some (.slice (some ⟨g0, 0, none⟩) d.good.length c0) ∧ w2.cell? ⟨g0, a, none⟩ = some (.slice (some ⟨gs, 0, none⟩) 64 cs) ∧
    w2.cell? ⟨b, 1, none⟩ = some (.slice (some ⟨gn, 0, none⟩) d.good.length cn) ∧ w2.cell? ⟨gn, a, none⟩ = some (.slice (some ⟨gk, 0, none⟩) 64 ck) ∧
    ((Dsk.bites d.now keep torn (d.order.take k) 0 d.good).set a x = Dsk.bites d.now keep torn (d.order.take (k + 1)) 0 d.good → CrashRel w bo d keep torn (k + 1) w2)

theorem CrashRel.facts {w : World} {b bo : Nat} {d : Dsk} {F : Nat → Prop} {keep : List Bool} {torn : Int} {k a : Nat} {wr : World} (hD : DiskAt wr b d F) (h : CrashRel w bo d keep torn k wr) (hk : k < d.order.length)
    (ha : d.order[k] = (a : Int)) : ∃ g0 c0 gs cs gn cn gk ck, CrashFacts w b bo d keep torn k a wr g0 c0 gs cs gn cn gk ck := by
  obtain ⟨gv, nv, ov, hb, hbF, hg, ⟨ns, hn, hn2⟩, ho, hap, hw, hu⟩ := hD
  obtain ⟨b0, c0, hbo, ⟨vs, hv, hv2⟩, hbo2, hkw⟩ := h
  have hal : a < d.good.length := by
    have := hw.order _ (List.getElem_mem hk)
    omega
  have hbl := Dsk.bites_length d.now keep torn (d.order.take k) 0 d.good
  have hvl : vs.length = d.good.length := by rw [hv2.len, hbl]
  have hnl : ns.length = d.good.length := by rw [hn2.len, hw.len]
  have hS : Dsk.Sectors (Dsk.bites d.now keep torn (d.order.take k) 0 d.good) := Dsk.Sectors.bites hw.now _ _ _ (fun j hj => by rw [hw.len]; exact hw.order j (List.mem_of_mem_take hj)) hw.len hw.good
  have hav : a < vs.length := by omega
  have han : a < ns.length := by omega
  have hab : a < (Dsk.bites d.now keep torn (d.order.take k) 0 d.good).length := by omega
  have hannow : a < d.now.length := by rw [hw.len]; exact hal
  -- out.good
  obtain ⟨g0, rfl⟩ : ∃ g0, b0 = some ⟨g0, 0, none⟩ := by
    rcases hv.shape with ⟨_, hz⟩ | ⟨g, c', cur, hx, _⟩
    · simp [hz] at hav
    · simp at hx; exact ⟨g, hx.1⟩
  obtain ⟨gn, cn, rfl⟩ : ∃ gn cn, nv = .slice (some ⟨gn, 0, none⟩) d.good.length cn := by
    rcases hn.shape with ⟨_, hz⟩ | ⟨g, c', cur, hx, _⟩
    · simp [hz] at han
    · exact ⟨g, c', by rw [hx, hnl]⟩
  have o1 := hv2.own a vs[a] _ (List.getElem?_eq_getElem hav) (List.getElem?_eq_getElem hab)
  have o2 := hn2.own a ns[a] _ (List.getElem?_eq_getElem han) (List.getElem?_eq_getElem hannow)
  have s1 := hS _ (List.getElem_mem hab)
  have s2 := hw.now _ (List.getElem_mem hannow)
  obtain ⟨gs, cs, e1⟩ : ∃ gs cs, vs[a] = .slice (some ⟨gs, 0, none⟩) 64 cs := by
    rcases o1.shape with ⟨_, hz⟩ | ⟨g, c', cur, hx, _⟩
    · rw [hz] at s1; simp at s1
    · exact ⟨g, c', by rw [hx, s1.1]⟩
  obtain ⟨gk, ck, e2, hck⟩ : ∃ gk ck, ns[a] = .slice (some ⟨gk, 0, none⟩) 64 ck ∧ 64 ≤ ck := by
    rcases o2.shape with ⟨_, hz⟩ | ⟨g, c', cur, hx, _, _, hc, _⟩
    · rw [hz] at s2; simp at s2
    · exact ⟨g, c', by rw [hx, s2.1], by rw [← s2.1]; exact hc⟩
  have d1 : (Dsk.bites d.now keep torn (d.order.take k) 0 d.good).getD a [] = (Dsk.bites d.now keep torn (d.order.take k) 0 d.good)[a] := by rw [List.getD_eq_getElem?_getD, List.getElem?_eq_getElem hab]; rfl
  have d2 : d.now.getD a [] = d.now[a] := by rw [List.getD_eq_getElem?_getD, List.getElem?_eq_getElem hannow]; rfl
  rw [e1] at o1
  rw [e2] at o2
  have cA := cell_at hbo 0 _ rfl
  have cB := hv.cell a _ (List.getElem?_eq_getElem hav)
  have cC := cell_at hb 1 _ rfl
  have cD := hn.cell a _ (List.getElem?_eq_getElem han)
  rw [e1] at cB
  rw [e2] at cD
  refine ⟨g0, c0, gs, cs, gn, cn, gk, ck, ⟨cA, cB, cC, cD, hck, by rw [d1]; exact o1, by rw [d2]; exact o2.reads.mono (fun _ _ _ => trivial), fun w2 x h2 hk2 => ?_⟩⟩
  obtain ⟨cur, hgs⟩ := o1.blockIs (g := gs) rfl
  -- a block that is none of bytes is kept
  have far : ∀ (p : Nat) (i : Nat) (v : Value) (c : Array Value) (e : TypeId) (fz : Nat × Nat), wr.heap[p]? = some (.cells c e fz) → e ≠ 5 → wr.cell? ⟨p, i, none⟩ = some v → w2.cell? ⟨p, i, none⟩ = some v := by
    intro p i v c e fz hp he hc
    have hne : p ≠ gs := fun e' => by subst e'; rw [hgs] at hp; simp at hp; exact he hp.2.1.symm
    exact (hk2.cell (w := wr.drew) (p := ⟨p, i, none⟩) (Array.getElem?_eq_some_iff.1 hp).1 hne).trans hc
  obtain ⟨cur0, h0⟩ := hv.blockIs (g := g0) rfl
  obtain ⟨cur1, h1⟩ := hn.blockIs (g := gn) rfl
  refine ⟨far bo 0 _ _ _ _ hbo (by decide) cA, far g0 a _ _ _ _ h0 (by decide) cB, far b 1 _ _ _ _ hb (by decide) cC, far gn a _ _ _ _ h1 (by decide) cD, fun heq => ?_⟩
  have hne : ∀ (p : Nat) (c : Array Value) (e : TypeId) (fz : Nat × Nat), wr.heap[p]? = some (.cells c e fz) → e ≠ 5 → w2.heap[p]? = wr.heap[p]? := fun p c e fz hp he =>
    hk2.block (w := wr.drew) p (Array.getElem?_eq_some_iff.1 hp).1 (fun e' => by rw [show p = gs from e', hgs] at hp; simp at hp; exact he hp.2.1.symm)
  refine ⟨_, c0, (hne bo _ _ _ hbo (by decide)).trans hbo, ⟨vs, hv.drew.keptT hk2 (fun j hj => ?_), ?_⟩, hbo2, ?_⟩
  · rw [show j = gs from hj]; exact hv.not_in hgs (by decide)
  · rw [← heq]
    exact hv2.drew.turn (List.getElem?_eq_getElem hav) (by rw [e1]; rfl) (by rw [e1]; exact h2) hk2
  · exact hkw.from (Nat.le_refl _) ((Kept.drew (From w.heap.size) wr).trans' (hk2.mono (fun j _ hj => by rw [show j = gs from hj]; exact o1.2 gs rfl)))

theorem bites_next (d : Dsk) (keep : List Bool) (torn : Int) (k a : Nat) (hk : k < d.order.length) (ha : d.order[k] = (a : Int)) :
    Dsk.bites d.now keep torn (d.order.take (k + 1)) 0 d.good = Dsk.bite d.now keep torn k a (Dsk.bites d.now keep torn (d.order.take k) 0 d.good) := by
  rw [List.take_succ_eq_append_getElem hk, Dsk.bites_snoc, ha]
  have : (List.take k d.order).length = k := by simp only [List.length_take]; omega
  rw [this]; simp

/-- a round that keeps nothing -/
theorem CrashRel.same {w : World} {bo : Nat} {d : Dsk} {keep : List Bool} {torn : Int} {k : Nat} {wr : World} (h : CrashRel w bo d keep torn k wr)
    (he : Dsk.bites d.now keep torn (d.order.take (k + 1)) 0 d.good = Dsk.bites d.now keep torn (d.order.take k) 0 d.good) : CrashRel w bo d keep torn (k + 1) wr := by
  obtain ⟨b, c, h1, h2, h3⟩ := h
  exact ⟨b, c, h1, by rw [he]; exact h2, h3⟩
theorem CrashRel.drew {w : World} {bo : Nat} {d : Dsk} {keep : List Bool} {torn : Int} {k : Nat} {wr : World} (h : CrashRel w bo d keep torn k wr) : CrashRel w bo d keep torn k wr.drew := by
  obtain ⟨b, c, h1, h2, h3, h4⟩ := h
  exact ⟨b, c, h1, h2.drew, h3, h4.trans' (Kept.drew _ _)⟩

/-- a new disk is whole -/
theorem disk_made {w wr w1 : World} {bo n : Nat} {g : List (List Value)} {b b1 : Option Addr} {cap cap1 : Nat}
    (hb : wr.heap[bo]? = some (.cells #[.slice b n cap, .slice none 0 0, .slice none 0 0, .int .i64 0, .bool false, .int .i64 0, .bool false] 72 (0, 0)))
    (hr : OwnRows wr 50 5 (.slice b n cap) g (From w.heap.size)) (hbo : w.heap.size ≤ bo) (hk : Kept Nob w wr) (hw : (⟨g, g, [], 0, false, 0, false⟩ : Dsk).Wf)
    (ho1 : OwnRows w1 50 5 (.slice b1 g.length cap1) g (From wr.heap.size)) (hk1 : Kept Nob wr w1) :
    w1.cell? ⟨bo, 1, none⟩ = some (.slice none 0 0) ∧ w1.frozen? ⟨bo, 1, none⟩ = false ∧
    DiskAt (w1.setCell ⟨bo, 1, none⟩ (.slice b1 g.length cap1)) bo ⟨g, g, [], 0, false, 0, false⟩ (fun k => w.heap.size ≤ k ∧ k < (w1.setCell ⟨bo, 1, none⟩ (.slice b1 g.length cap1)).heap.size) ∧
    Kept Nob w (w1.setCell ⟨bo, 1, none⟩ (.slice b1 g.length cap1)) := by
  have hlt : bo < wr.heap.size := (Array.getElem?_eq_some_iff.1 hb).1
  have hb1 : w1.heap[bo]? = _ := (hk1.block _ hlt (fun f => f)).trans hb
  have hks := kept1 w1 bo 1 (.slice b1 g.length cap1)
  have hsz : (w1.setCell ⟨bo, 1, none⟩ (.slice b1 g.length cap1)).heap.size = w1.heap.size := by simp [World.setCell]
  have hd : ∀ j, Just bo j → ∃ cs e' fz, w1.heap[j]? = some (.cells cs e' fz) ∧ e' ≠ 50 ∧ e' ≠ 5 := fun j hj => by
    rw [show j = bo from hj]; exact ⟨_, _, _, hb1, by decide, by decide⟩
  have hs := hk.size
  refine ⟨cell_at hb1 1 _ rfl, frozen_at hb1 1, ?_, ?_⟩
  · rw [hsz]
    refine ⟨_, _, _, heap_set w1 _ 1 _ _ _ hb1, ⟨hbo, Nat.lt_of_lt_of_le hlt hk1.size⟩, ?_, ?_, Own.nil _ _ _, ?_, hw, fun k hk => hsz ▸ hk.2⟩
    · exact (((hr.kept hk1 (fun _ _ f => f)).keptT hks hd).mono fun k hk h => ⟨h, hsz ▸ hk⟩)
    · exact ((ho1.keptT hks hd).mono fun k hk h => ⟨Nat.le_trans hs h, hsz ▸ hk⟩)
    · intro g hg hg'
      obtain ⟨vs, hv, _⟩ := hr
      obtain ⟨us, hu, _⟩ := ho1
      have := hv.blockLt hg
      have h3 : wr.heap.size ≤ g := hu.2 g hg'
      omega
  · have h3 : Kept (From w.heap.size) wr (w1.setCell ⟨bo, 1, none⟩ (.slice b1 g.length cap1)) := hk1.nob.trans' (hks.mono (fun j _ hj => by rw [show j = bo from hj]; exact hbo))
    exact hk.from (Nat.le_refl _) h3

/-- behind a call that makes a disk -/
def RetDisk (w : World) (d : Dsk) (en : Ending) (w' : World) : Prop :=
  ∃ b, en = .returned (.pointer (some ⟨b, 0, none⟩)) ∧ DiskAt w' b d (fun k => w.heap.size ≤ k ∧ k < w'.heap.size) ∧ Kept Nob w w'

set_option maxHeartbeats 1000000 in
theorem disk_crash (w : World) (b : Nat) (d : Dsk) (F : Nat → Prop) (h : DiskAt w b d F) (kv : Value) (keep : List Bool) (G : Nat → Prop) (hkeep : Reads w kv (keep.map Value.bool) G) (hkl : keep.length < 1000000000) (torn : Int) :
    Calls Tryz.prog 25 #[.pointer (some ⟨b, 0, none⟩), kv, .int .i64 torn] w (RetDisk w (d.crash keep torn)) := by
  have HG := Lib.hid (disk_gone w b d F h)
  have HD := Lib.hid h
  have HKp := Lib.hid hkeep
  obtain ⟨ka, kc, rfl, _⟩ := hkeep.shape
  simp only [List.length_map]
  obtain ⟨gv, nv, ov, hb, hbF, hg, hn, ho, hap, hw, hu⟩ := h
  have hcp := copied_any w gv d.good F hg (by have := hw.most; omega) (fun x hx => ⟨by have := (hw.good x hx).1; omega, (hw.good x hx).2⟩)
  obtain ⟨vs, hgv, hgr⟩ := hg
  obtain ⟨ga, gc, rfl, _⟩ := hgv.reads.shape
  obtain ⟨oa, oc, rfl, _⟩ := ho.reads.shape
  have c0 := cell_at hb 0 _ rfl
  have c2 := cell_at hb 2 _ rfl
  have HC := Lib.hid hcp
  have HU := Lib.hid hu
  have HF := Lib.hid hbF
  have HW := Lib.hid hw
  have HO := Lib.hid ho
  have HB := Lib.hid hb
  have hol := hw.orderLen
  clear hb hbF hgv hgr hn ho hap hw hu hcp hkeep
  simp only [List.length_map] at c2 HO
  generalize vs.length = nv' at *
  go_enter Tryz.func25, Tryz.ntmps25
  go_wp2_with (first | (go_at_call 40; refine HG.out.mono ?_; rintro e w' ⟨rfl, rfl⟩) | (go_at_call 32; refine HC.out.mono ?_; rintro e w1 ⟨b1, cap1, rfl, ho1, hk1⟩; have c2' := (hk1.cell (p := ⟨b, 2, none⟩) (HU.out b HF.out) (fun f => f)).trans c2; have hb1 : b < w1.heap.size := Nat.lt_of_lt_of_le (HU.out b HF.out) hk1.size))
  have hrel0 : CrashRel w w1.heap.size d keep torn 0 (w1.alloc (.cells #[.slice b1 d.good.length cap1, .slice none 0 0, .slice none 0 0, .int .i64 0, .bool false, .int .i64 0, .bool false] 72)) :=
    ⟨b1, cap1, heap_alloc_new w1 _, ho1.kept (Kept.alloc Nob w1 _) (fun _ _ f => f), hk1.size, hk1.trans' (Kept.alloc Nob w1 _)⟩
  have HR0 := Lib.hid hrel0
  clear hrel0 ho1 c2' c2 HB c0 HC
  generalize w1.heap.size = bo at *
  go_loopw [24] (fun i wr => ∃ k : Nat, k ≤ d.order.length ∧ i = .int .i64 k ∧ CrashRel w bo d keep torn k wr) (fun i _ => d.order.length - (intOf i).toNat)
  case atStart => exact ⟨0, Nat.zero_le _, rfl, HR0.out⟩
  case round =>
    obtain ⟨k, hk, rfl, hC⟩ := hrel
    by_cases hlt : k < d.order.length
    · have hkw : Kept Nob w wr := by obtain ⟨_, _, _, _, _, h⟩ := hC; exact h
      have hDr : DiskAt wr b d F := HD.out.kept hkw (fun _ _ f => f)
      obtain ⟨a, ha⟩ : ∃ a : Nat, d.order[k] = (a : Int) := ⟨d.order[k].toNat, by have := (HW.out.order _ (List.getElem_mem hlt)).1; omega⟩
      have hal : a < d.good.length := by have := HW.out.order _ (List.getElem_mem hlt); omega
      obtain ⟨g0, c0, gs, cs, gn, cn, gk, ck, hf⟩ := CrashRel.facts hDr hC hlt ha
      obtain ⟨go, rfl⟩ : ∃ go, oa = some ⟨go, 0, none⟩ := by
        rcases HO.out.shape with ⟨hx, hz⟩ | ⟨g, c', cur, hx, _⟩
        · simp at hz; rw [hz] at hlt; simp at hlt
        · simp at hx; exact ⟨g, hx.1⟩
      have co : wr.cell? ⟨go, k, none⟩ = some (.int .i64 a) := (HO.out.kept hkw (fun _ _ f => f)).cell k _ (by rw [List.getElem?_map, List.getElem?_eq_getElem hlt, ha]; rfl)
      have hbx := bites_next d keep torn k a hlt ha
      have cA := hf.cA
      have cB := hf.cB
      have cC := hf.cC
      have cD := hf.cD
      have hck := hf.hck
      have hck2 : (32 : Int) ≤ (ck : Int) := by omega
      have HFf := Lib.hid hf
      have HBx := Lib.hid hbx
      have HA := Lib.hid ha
      have HC' := Lib.hid hC
      have a0 : (0 : Int) ≤ (a : Int) := Int.natCast_nonneg _
      have a1 : (a : Int) < (d.good.length : Int) := by omega
      clear hf hbx ha hC hDr hkw
      have hN : (d.now.getD a []).length = 64 ∧ ∀ u ∈ d.now.getD a [], IsByte u := Dsk.Sectors.getD HW.out.now (by rw [HW.out.len]; exact hal)
      have hO : ((Dsk.bites d.now keep torn (d.order.take k) 0 d.good).getD a []).length = 64 := (Dsk.Sectors.getD (Dsk.Sectors.bites HW.out.now _ _ _ (fun j hj => by rw [HW.out.len]; exact HW.out.order j (List.mem_of_mem_take hj)) HW.out.len HW.out.good) (by rw [Dsk.bites_length]; exact hal)).1
      have HN := Lib.hid hN
      have HOl := Lib.hid hO
      clear hN hO
      by_cases ht : (k : Int) = torn
      · have htb : ((k : Int) == torn) = true := by simpa using ht
        have HEQ : Hid ((Dsk.bites d.now keep torn (d.order.take k) 0 d.good).set a (laid ((Dsk.bites d.now keep torn (d.order.take k) 0 d.good).getD a []) 0 64 ((d.now.getD a []).take 32)) = Dsk.bites d.now keep torn (d.order.take (k + 1)) 0 d.good) := by
          show _ = _
          rw [HBx.out, Dsk.bite, if_pos ht, laid_torn HN.out.1]
        clear ht
        go_wp2_with fail
        go_region_held3 (fun w' => w'.cell? ⟨bo, 0, none⟩ = some (.slice (some ⟨g0, 0, none⟩) d.good.length c0) ∧ w'.cell? ⟨g0, a, none⟩ = some (.slice (some ⟨gs, 0, none⟩) 64 cs) ∧ w'.cell? ⟨b, 1, none⟩ = some (.slice (some ⟨gn, 0, none⟩) d.good.length cn) ∧ w'.cell? ⟨gn, a, none⟩ = some (.slice (some ⟨gk, 0, none⟩) 64 ck)) (go_keep)
          ((refine step_copy_pg rfl _ _ 50 50 rfl tBytes (.slice (some ⟨gk, 0, none⟩) 32 ck) ((Dsk.bites d.now keep torn (d.order.take k) 0 d.good).getD a []) ((d.now.getD a []).take 32) (From w.heap.size) (fun _ => True) gs 64 cs 0 64 cs rfl rfl HFf.out.old.drew (HFf.out.src.take 32 (by have := HN.out.1; omega) (by have := HN.out.1; omega)).drew (by have := HOl.out; omega) (fun u hu => (HN.out.2 u (List.mem_of_mem_take hu)).one) ?_; intro w2 ho2 hk2; have HQ := Lib.hid (HFf.out.fin w2 _ ho2 hk2); have q1 := HQ.out.1; have q2 := HQ.out.2.1; have q3 := HQ.out.2.2.1; have q4 := HQ.out.2.2.2.1))
        go_wp2
        go_roundw
        case rel => exact ⟨k + 1, by omega, by go_num, HQ.out.2.2.2.2 HEQ.out⟩
        case measure => simp [intOf]; omega
      · have htb : ((k : Int) == torn) = false := by simpa using ht
        have hne : keep = [] ∨ (keep ≠ [] ∧ ∃ gq oq, ka = some ⟨gq, oq, none⟩ ∧ k % keep.length < keep.length ∧ wr.cell? ⟨gq, oq + k % keep.length, none⟩ = some (.bool (keep.getD (k % keep.length) false))) := by
          by_cases he : keep = []
          · exact .inl he
          · refine .inr ⟨he, ?_⟩
            have hpos : 0 < keep.length := List.length_pos_iff.2 he
            have hml := Nat.mod_lt k hpos
            have hkw : Kept Nob w wr := by obtain ⟨_, _, _, _, _, h⟩ := HC'.out; exact h
            rcases HKp.out.kept hkw (fun _ _ f => f) with ⟨hz, _⟩ | ⟨gq, oq, cq, hx, _, _, _, hc⟩
            · simp at hz; exact absurd hz he
            · simp only [Value.slice.injEq] at hx
              refine ⟨gq, oq, hx.1, hml, hc _ _ ?_⟩
              rw [List.getElem?_map, List.getElem?_eq_getElem hml, List.getD_eq_getElem?_getD, List.getElem?_eq_getElem hml]
              rfl
        have HBS : keep = [] ∨ keep.getD (k % keep.length) false = false → Hid (Dsk.bites d.now keep torn (d.order.take (k + 1)) 0 d.good = Dsk.bites d.now keep torn (d.order.take k) 0 d.good) := fun h => by
          show _ = _
          rw [HBx.out, Dsk.bite, if_neg ht, if_neg (fun hh => by rcases h with h | h; exact hh.1 h; rw [h] at hh; exact absurd hh.2 (by simp))]
        have HBT : keep ≠ [] → keep.getD (k % keep.length) false = true → Hid ((Dsk.bites d.now keep torn (d.order.take k) 0 d.good).set a (laid ((Dsk.bites d.now keep torn (d.order.take k) 0 d.good).getD a []) 0 64 (d.now.getD a [])) = Dsk.bites d.now keep torn (d.order.take (k + 1)) 0 d.good) := fun h1 h2 => by
          show _ = _
          rw [HBx.out, Dsk.bite, if_neg ht, if_pos ⟨h1, h2⟩, laid_full HN.out.1 HOl.out]
        clear ht
        rcases hne with he | ⟨he, gq, oq, rfl, hml, cq⟩
        · have hl0 : decide (0 < keep.length) = false := by simp [he]
          have HE := HBS (.inl he)
          clear HBS HBT he
          go_wp2_with fail
          go_roundw
          case rel => exact ⟨k + 1, by omega, by go_num, HC'.out.same HE.out⟩
          case measure => simp [intOf]; omega
        · have hl0 : decide (0 < keep.length) = true := by simp; exact List.length_pos_iff.2 he
          have hlp : 0 < keep.length := List.length_pos_iff.2 he
          obtain ⟨m, hm⟩ : ∃ m, k % keep.length = m := ⟨_, rfl⟩
          have hmod : (k : Int) % (keep.length : Int) = (m : Int) := by rw [← hm]; rfl
          rw [hm] at hml cq HBS HBT
          clear hm
          cases hv : keep.getD m false
          · have HE := HBS (.inr hv)
            rw [hv] at cq
            clear HBS HBT he hv
            go_wp2_with fail
            go_roundw
            case rel => exact ⟨k + 1, by omega, by go_num, HC'.out.same HE.out⟩
            case measure => simp [intOf]; omega
          · have HEQ := HBT he hv
            rw [hv] at cq
            clear HBS HBT he hv
            go_wp2_with fail
            go_region_held3 (fun w' => w'.cell? ⟨bo, 0, none⟩ = some (.slice (some ⟨g0, 0, none⟩) d.good.length c0) ∧ w'.cell? ⟨g0, a, none⟩ = some (.slice (some ⟨gs, 0, none⟩) 64 cs) ∧ w'.cell? ⟨b, 1, none⟩ = some (.slice (some ⟨gn, 0, none⟩) d.good.length cn) ∧ w'.cell? ⟨gn, a, none⟩ = some (.slice (some ⟨gk, 0, none⟩) 64 ck)) (go_keep)
              ((refine step_copy_pg rfl _ _ 50 50 rfl tBytes (.slice (some ⟨gk, 0, none⟩) 64 ck) ((Dsk.bites d.now keep torn (d.order.take k) 0 d.good).getD a []) (d.now.getD a []) (From w.heap.size) (fun _ => True) gs 64 cs 0 64 cs rfl rfl HFf.out.old.drew HFf.out.src.drew (by have := HOl.out; omega) (fun u hu => (HN.out.2 u hu).one) ?_; intro w2 ho2 hk2; have HQ := Lib.hid (HFf.out.fin w2 _ ho2 hk2); have q1 := HQ.out.1; have q2 := HQ.out.2.1; have q3 := HQ.out.2.2.1; have q4 := HQ.out.2.2.2.1))
            go_wp2
            go_roundw
            case rel => exact ⟨k + 1, by omega, by go_num, HQ.out.2.2.2.2 HEQ.out⟩
            case measure => simp [intOf]; omega
    · obtain rfl : k = d.order.length := by omega
      obtain ⟨b2, cap2, hbo, hrows, hbow, hkw⟩ := hC
      rw [List.take_length] at hrows
      have hwf := HW.out.crash keep torn
      have hlen : (Dsk.bites d.now keep torn d.order 0 d.good).length = d.good.length := Dsk.bites_length _ _ _ _ _ _
      have cA := cell_at hbo 0 _ rfl
      have hcp := copied_any wr _ _ _ hrows (by rw [hlen]; have := HW.out.most; omega) (fun x hx => ⟨by have := (hwf.good x hx).1; omega, (hwf.good x hx).2⟩)
      have HC := Lib.hid hcp
      have HST := fun b1 cap1 w2 h1' h2' => Lib.hid (disk_made (b1 := b1) (cap1 := cap1) (w1 := w2) hbo hrows hbow hkw hwf h1' h2')
      have HCR : Hid ((⟨Dsk.bites d.now keep torn d.order 0 d.good, Dsk.bites d.now keep torn d.order 0 d.good, [], 0, false, 0, false⟩ : Dsk) = d.crash keep torn) := rfl
      clear hbo hrows hbow hkw hwf hlen hcp HR0
      generalize Dsk.bites d.now keep torn d.order 0 d.good = gg at *
      go_wp2_with (go_at_call 32; refine HC.out.mono ?_; rintro e w2 ⟨b3, cap3, rfl, ho3, hk3⟩; have HQ := HST b3 cap3 w2 ho3 hk3; have q1 := HQ.out.1; have q2 := HQ.out.2.1)
      go_ret
      rw [← HCR.out]
      exact ⟨bo, rfl, HQ.out.2.2.1, HQ.out.2.2.2⟩
end Go.Proofs.YthppgchmamonnaaGreatDoor
