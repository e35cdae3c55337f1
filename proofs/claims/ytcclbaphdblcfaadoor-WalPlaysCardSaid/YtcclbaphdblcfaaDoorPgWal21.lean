/- The laws of the log: a log that stands; awake. -/
import Derived.Test.YtcclbaphdblcfaaDoorPgWal20
import Derived.Test.YtcclbaphdblcfaaDoorPgDisk5
import Derived.Test.YtcclbaphdblcfaaDoorPgRet
import Derived.Lib.SmallJoins
namespace Go.Proofs.YtcclbaphdblcfaaDoor
open Go.RowKit

/-- A log stands on its disk; all its memory is newer than w0. -/
structure Up (w0 w : World) (b bd : Nat) (d : Dsk) (L : Wal.Lg) (F R : Nat → Prop) (N : Nat) : Prop where
  disk : DiskAt w bd d F
  log : LogAt w b bd L R
  bF : ¬ F b
  apart : Disj R F
  live : Wal.Live d
  calm : d.order = []
  on : Wal.On d.now L
  newF : ∀ x, F x → w0.heap.size ≤ x
  newR : ∀ x, R x → w0.heap.size ≤ x
  newB : w0.heap.size ≤ b
  kept : Kept Nob w0 w
  ops : d.ops ≤ N
theorem Up.rest {w0 w w' : World} {b bd : Nat} {d : Dsk} {L : Wal.Lg} {F R G : Nat → Prop} {N : Nat} (h : Up w0 w b bd d L F R N) (hk : Kept G w w') (hb : ¬ G b) (hF : Disj F G) (hR : Disj R G) (h0 : ∀ x, x < w0.heap.size → ¬ G x) : Up w0 w' b bd d L F R N :=
  ⟨h.disk.kept hk hF, h.log.kept hk hb hR, h.bF, h.apart, h.live, h.calm, h.on, h.newF, h.newR, h.newB, h.kept.trans hk (fun x hx g => h0 x hx g), h.ops⟩
theorem Up.nob {w0 w w' : World} {b bd : Nat} {d : Dsk} {L : Wal.Lg} {F R : Nat → Prop} {N : Nat} (h : Up w0 w b bd d L F R N) (hk : Kept Nob w w') : Up w0 w' b bd d L F R N :=
  h.rest hk (fun f => f) (fun _ _ f => f) (fun _ _ f => f) (fun _ _ f => f)
/-- behind a change -/
theorem Up.step {w0 w w' : World} {b bd : Nat} {d : Dsk} {L L' : Wal.Lg} {F R : Nat → Prop} {N : Nat} (h : Up w0 w b bd d L F R N) (ht : LogTo w b bd d F R L L' w') :
    ∃ d' F' R', Up w0 w' b bd d' L' F' R' (N + 20000) ∧ Kept (Por F (Just b)) w w' ∧ Grows F w.heap.size F' ∧ Stood d d' L L' := by
  obtain ⟨d', F', R', h1, h2, h3, h4, h5, h6, h7, h8⟩ := ht
  have hs := h.kept.size
  refine ⟨d', F', R', ⟨h1, h5, h8, h7, h4.live, h4.calm, h4.on, fun x hx => ?_, fun x hx => ?_, h.newB, h.kept.trans h3 (fun x hx g => ?_), by have := h4.ops; have := h.ops; omega⟩, h3, h2, h4⟩
  · rcases h2 x hx with q | q
    · exact h.newF x q
    · omega
  · rcases h6 x hx with q | q
    · exact h.newR x q
    · omega
  · rcases g with g | g
    · have := h.newF x g; omega
    · have := h.newB; have : x = b := g; omega
/-- behind an Open -/
theorem Up.opened {w0 w w' : World} {bd : Nat} {d : Dsk} {F : Nat → Prop} {L : Wal.Lg} {en : Ending} {N : Nat} (hl : Wal.Live d) (hon : Wal.On d.now L) (hN : d.ops ≤ N) (hk : Kept Nob w0 w) (hF : ∀ x, F x → w0.heap.size ≤ x) (h : RetOpen w bd d.sync.1 F L en w') :
    ∃ b F' R, en = .returned (.tuple #[.pointer (some ⟨b, 0, none⟩), .nilIface]) ∧ Up w0 w' b bd d.sync.1 L F' R (N + 1) ∧ Kept F w w' ∧ Grows F w.heap.size F' ∧ w.heap.size ≤ b := by
  obtain ⟨b, R, F', rfl, h1, h2, h3, h4, h5, h6, h7, h8⟩ := h
  have hs := hk.size
  have hsy := Wal.sync_now hl
  refine ⟨b, F', R, rfl, ⟨h2, h1, h6, h7, hl.sync, hsy.2.1, by rw [hsy.1]; exact hon, fun x hx => ?_, fun x hx => Nat.le_trans hs (h4 x hx), by omega, hk.trans h8 (fun x hx g => ?_), by rw [hsy.2.2]; omega⟩, h8, h3, h5⟩
  · rcases h3 x hx with q | q
    · exact hF x q
    · omega
  · have := hF x g; omega

theorem fresh_zero (n i : Nat) (h : i < n) : (Dsk.fresh n).now.getD i [] = Dsk.zeroSector := by
  simp [Dsk.fresh, h, List.getD_eq_getElem?_getD]
theorem fresh_on (n frm til : Nat) (h1 : frm + 16 ≤ til) (h2 : til ≤ n) : Wal.On (Dsk.fresh n).now (Wal.Lg.none frm ((til - frm - 1) / 2)) :=
  Wal.On.fresh (by omega) (by simp [Dsk.fresh]; omega) (fresh_zero n frm (by omega))
/-- two small records -/
def recA : List Value := [.int .u8 97]
def recB : List Value := [.int .u8 98]

theorem three (w : World) (o1 o2 o3 : Obj) : (((w.alloc o1).alloc o2).alloc o3).heap[w.heap.size]? = some o1 ∧ (((w.alloc o1).alloc o2).alloc o3).heap[w.heap.size + 1]? = some o2 ∧ (((w.alloc o1).alloc o2).alloc o3).heap[w.heap.size + 2]? = some o3 := by
  have h1 := heap_alloc_new w o1
  have h2 := heap_alloc_new (w.alloc o1) o2
  have h3 := heap_alloc_new ((w.alloc o1).alloc o2) o3
  have s1 : (w.alloc o1).heap.size = w.heap.size + 1 := by simp
  have s2 : ((w.alloc o1).alloc o2).heap.size = w.heap.size + 2 := by simp
  rw [s1] at h2
  rw [s2] at h3
  have k2 := Kept.alloc Nob (w.alloc o1) o2
  have k3 := Kept.alloc Nob ((w.alloc o1).alloc o2) o3
  exact ⟨(k3.block _ (by omega) (fun f => f)).trans ((k2.block _ (by omega) (fun f => f)).trans h1), (k3.block _ (by omega) (fun f => f)).trans h2, h3⟩
set_option maxRecDepth 100000 in
set_option maxHeartbeats 4000000 in
theorem awake13 (w : World) : Calls Tryd.prog 10 #[] w (RetTrue w) := by
  go_enter Tryd.func10, Tryd.ntmps10
  go_wp2_with fail
  refine (disk_new w 100 (by omega) (by omega)).mono ?_
  rintro e w1 ⟨bd, rfl, hD1, hk1⟩
  have HD1 := Lib.hid hD1
  have HK1 := Lib.hid hk1
  clear hD1 hk1
  go_wp2_with fail
  refine (log_open w1 bd (Dsk.fresh 100) _ HD1.out (Wal.Live.fresh 100) (by decide) 10 90 (by omega) (by decide) (Wal.Lg.none 10 39) (fresh_on 100 10 90 (by omega) (by omega)) rfl rfl).mono ?_
  rintro e w2 hop
  obtain ⟨b, F2, R2, rfl, hU2, -, -, -⟩ := Up.opened (w0 := w) (N := 0) (Wal.Live.fresh 100) (fresh_on 100 10 90 (by omega) (by omega)) (by decide) HK1.out (fun x hx => hx.1) hop
  generalize (Dsk.fresh 100).sync.1 = d2 at hU2
  have HU2 := Lib.hid hU2
  clear hop hU2
  have kc1 : (convert 47 47 (.slice (some ⟨w2.heap.size, 0, none⟩) 1 1)).run Tryd.prog (w2.alloc (.cells #[.int .u8 97] 5)) = .ok (.slice (some ⟨w2.heap.size, 0, none⟩) 1 1) (w2.alloc (.cells #[.int .u8 97] 5 (1, 2))) := Lib.run_convert_bytes_const w2 _ _ #[.int .u8 97] 1 1 Tryd.underlying47 Tryd.underlying5
  have kc2 : (convert 47 47 (.slice (some ⟨w2.heap.size + 1, 0, none⟩) 1 1)).run Tryd.prog ((w2.alloc (.cells #[.int .u8 97] 5 (1, 2))).alloc (.cells #[.int .u8 98] 5)) = .ok (.slice (some ⟨w2.heap.size + 1, 0, none⟩) 1 1) ((w2.alloc (.cells #[.int .u8 97] 5 (1, 2))).alloc (.cells #[.int .u8 98] 5 (1, 2))) := Go.Joins.run_convert_bytes_const_at _ _ _ #[.int .u8 98] 1 1 _ (by simp) Tryd.underlying47 Tryd.underlying5
  go_wp2_with fail
  clear kc1 kc2
  have ka := ((Kept.alloc Nob w2 (.cells #[.int .u8 97] 5 (1, 2))).trans' (Kept.alloc Nob _ (.cells #[.int .u8 98] 5 (1, 2)))).trans' (Kept.alloc Nob _ (.cells #[.slice (some ⟨w2.heap.size, 0, none⟩) 1 1, .slice (some ⟨w2.heap.size + 1, 0, none⟩) 1 1] 47))
  have HU3 := Lib.hid (HU2.out.nob ka)
  clear ka
  obtain ⟨t1, t2, t3⟩ := three w2 (.cells #[.int .u8 97] 5 (1, 2)) (.cells #[.int .u8 98] 5 (1, 2)) (.cells #[.slice (some ⟨w2.heap.size, 0, none⟩) 1 1, .slice (some ⟨w2.heap.size + 1, 0, none⟩) 1 1] 47)
  have hR : Reads (((w2.alloc (.cells #[.int .u8 97] 5 (1, 2))).alloc (.cells #[.int .u8 98] 5 (1, 2))).alloc (.cells #[.slice (some ⟨w2.heap.size, 0, none⟩) 1 1, .slice (some ⟨w2.heap.size + 1, 0, none⟩) 1 1] 47)) (.slice (some ⟨w2.heap.size + 2, 0, none⟩) 2 2) [.slice (some ⟨w2.heap.size, 0, none⟩) 1 1, .slice (some ⟨w2.heap.size + 1, 0, none⟩) 1 1] (fun _ => True) := by
    refine .inr ⟨w2.heap.size + 2, 0, 2, rfl, by simp, by simp, trivial, fun i v hi => ?_⟩
    match i, hi with
    | 0, hi => simp at hi; subst hi; exact cell_at t3 0 _ rfl
    | 1, hi => simp at hi; subst hi; exact cell_at t3 1 _ rfl
  have hA : ReadRows (((w2.alloc (.cells #[.int .u8 97] 5 (1, 2))).alloc (.cells #[.int .u8 98] 5 (1, 2))).alloc (.cells #[.slice (some ⟨w2.heap.size, 0, none⟩) 1 1, .slice (some ⟨w2.heap.size + 1, 0, none⟩) 1 1] 47)) [.slice (some ⟨w2.heap.size, 0, none⟩) 1 1, .slice (some ⟨w2.heap.size + 1, 0, none⟩) 1 1] [recA, recB] (fun _ => True) := by
    refine (ReadRows.single ?_).append (ReadRows.single ?_)
    · refine .inr ⟨w2.heap.size, 0, 1, rfl, by simp [recA], by simp; omega, trivial, fun i v hi => ?_⟩
      match i, hi with
      | 0, hi => simp [recA] at hi; subst hi; exact cell_at t1 0 _ rfl
    · refine .inr ⟨w2.heap.size + 1, 0, 1, rfl, by simp [recB], by simp, trivial, fun i v hi => ?_⟩
      match i, hi with
      | 0, hi => simp [recB] at hi; subst hi; exact cell_at t2 0 _ rfl
  refine (log_append _ b bd _ R2 d2 F2 HU3.out.log HU3.out.on HU3.out.disk HU3.out.bF HU3.out.live (by have := HU3.out.ops; omega) HU3.out.apart _ _ [recA, recB] _ hR hA (fun r hr => by
    simp only [List.mem_cons, List.not_mem_nil, or_false] at hr
    rcases hr with rfl | rfl
    · exact ⟨by decide, fun u hu => ⟨97, by simpa [recA] using hu⟩⟩
    · exact ⟨by decide, fun u hu => ⟨98, by simpa [recB] using hu⟩⟩) (by decide) (by decide) (by decide)).mono ?_
  rintro e w4 ⟨happ, -⟩
  obtain ⟨rfl, hto⟩ := happ (by decide)
  obtain ⟨d4, F4, R4, hU4, -, -, -⟩ := HU3.out.step hto
  have hT4 := (Tells.none 10 39).grow [recA, recB]
  rw [show ((90 - 10 - 1) / 2 : Nat) = 39 from rfl] at hU4
  generalize (Wal.Lg.none 10 39).grow [recA, recB] = L4 at hU4 hT4
  have HU4 := Lib.hid hU4
  have HTr := Lib.hid (show Calls Tryd.prog 18 #[.pointer (some ⟨b, 0, none⟩), .int .i64 1] w4 (fun e w' => e = .returned .nilIface ∧ LogTo w4 b bd d4 F4 R4 L4 (L4.trim 1) w') from
    log_trim_some w4 b bd L4 R4 d4 F4 hU4.log hU4.on hU4.disk hU4.bF hU4.live (by have := hU4.ops; omega) hU4.apart 1 (by rw [hT4.frst]; omega) (by rw [hT4.length]; decide))
  have hT5 := hT4.trim (k := 1) (by omega) (by decide)
  have HT5 := Lib.hid hT5
  clear hto happ hU4 hR hA t1 t2 t3 hT4 hT5
  go_wp2_with (go_at_call 18; refine HTr.out.mono ?_; rintro e w5 ⟨rfl, hto⟩)
  obtain ⟨d5, F5, R5, hU5, -, -, -⟩ := HU4.out.step hto
  have hg := log_get w5 b bd _ R5 hU5.log hU5.on.fits.small (fun r hr => by
    rw [HT5.out.recs] at hr
    simp at hr
    subst hr
    exact ⟨by decide, fun u hu => ⟨98, by simpa [recB] using hu⟩⟩) 1 (by rw [HT5.out.frst]; omega) (by rw [HT5.out.length]; decide)
  rw [HT5.out.get (k := 1) (by omega) (by decide)] at hg
  have HG := Lib.hid (show Calls Tryd.prog 23 #[.pointer (some ⟨b, 0, none⟩), .int .i64 1] w5 (RetRead w5 recB) from hg)
  have HU5 := Lib.hid hU5
  clear hto hU5 hg
  go_wp2_with fail
  refine HG.out.mono ?_
  rintro e w6 ⟨b6, c6, rfl, ho6, hk6⟩
  have ho6' : Own w6 5 (.slice b6 1 c6) recB (From w5.heap.size) := ho6
  obtain ⟨g6, o6, rfl, -, -, -, -⟩ := ho6'.reads.some' (by decide)
  have hcv : (convert 47 9 (.slice (some ⟨g6, o6, none⟩) 1 c6)).run Tryd.prog w6 = .ok (.string ⟨#[98]⟩) w6 :=
    run_convert_bytes_back w6 _ _ _ ⟨g6, o6, none⟩ c6 [98] Tryd.underlying47 Tryd.underlying5 Tryd.underlying9 (fun j hj => by
      rw [show (⟨g6, o6, none⟩ : Addr).add j = ⟨g6, o6 + j, none⟩ from by unfold Addr.add; split <;> simp_all]
      obtain rfl : j = 0 := by simp at hj; omega
      exact ho6'.reads.at (i := 0) rfl)
  have HF := Lib.hid (fun W (q : Kept Nob w6 W) => log_first W b bd _ R5 (HU5.out.log.kept (hk6.trans' q) (fun f => f) (fun _ _ f => f)))
  have HK6 := Lib.hid (HU5.out.kept.then hk6)
  rw [show recB.length = 1 from rfl]
  clear ho6 ho6' hk6 HG HTr
  go_wp2_with (go_at_call 26; refine (HF.out _ (Kept.refl _ _)).mono ?_; rintro e w7 ⟨rfl, rfl⟩)
  go_ret
  exact ⟨rfl, HK6.out⟩
end Go.Proofs.YtcclbaphdblcfaaDoor
