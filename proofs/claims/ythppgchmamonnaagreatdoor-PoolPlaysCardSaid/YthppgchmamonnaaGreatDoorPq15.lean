/- The document's own pool (pergolaref8.Pool) in memory; Log, find. The document's own pool: Unpin. The document's own pool: Numbers. The document's own pool: NewPool; drop. The document's own pool: drop. -/
import Derived.Test.YthppgchmamonnaaGreatDoorPq02
import Derived.Test.YthppgchmamonnaaGreatDoorPq05
import Derived.Test.YthppgchmamonnaaGreatDoorPq08
namespace Go.Proofs.YthppgchmamonnaaGreatDoor
open Go.RowKit
structure DHd where
  n : Nat
  g : Nat
  pg : Nat
  pins : Nat
  dirty : Bool
  lsn : Int
  last : Nat
structure DPl where
  pages : Nat
  room : Nat
  mark : Int
  clock : Nat
  hits : Nat
  reads : Nat
  wrote : Nat
  all : List DHd
def DHd.cells (x : DHd) : Array Value := #[.int .i64 x.n, .pointer (some ⟨x.pg, 0, none⟩), .int .i64 x.pins, .bool x.dirty, .int .i64 x.lsn, .int .i64 x.last]
def DPl.ptrs (Q : DPl) : List Value := Q.all.map fun x => .pointer (some ⟨x.g, 0, none⟩)
structure DPoolAt (w : World) (m md : Nat) (Q : DPl) (S : Nat → Prop) : Prop where
  head : ∃ hv T, w.heap[m]? = some (.cells #[.pointer (some ⟨md, 0, none⟩), .int .i64 Q.pages, .int .i64 Q.room, hv, .int .i64 Q.mark, .int .i64 Q.clock, .int .i64 Q.hits, .int .i64 Q.reads, .int .i64 Q.wrote] 117 (0, 0)) ∧
    Reads w hv Q.ptrs T ∧ ∀ k, T k → S k ∧ ∀ x ∈ Q.all, x.g ≠ k
  held : ∀ x ∈ Q.all, w.heap[x.g]? = some (.cells x.cells 153 (0, 0)) ∧ S x.g
  once : Q.all.Pairwise fun x y => x.g ≠ y.g ∧ x.n ≠ y.n
  noM : ¬ S m
theorem DPoolAt.lt {w : World} {m md : Nat} {Q : DPl} {S : Nat → Prop} (h : DPoolAt w m md Q S) : m < w.heap.size := by
  obtain ⟨_, _, hb, _⟩ := h.head
  exact (Array.getElem?_eq_some_iff.1 hb).1
theorem DPoolAt.kept {w w' : World} {m md : Nat} {Q : DPl} {S G : Nat → Prop} (h : DPoolAt w m md Q S) (hk : Kept G w w') (hm : ¬ G m) (hd : ∀ k, S k → ¬ G k) : DPoolAt w' m md Q S := by
  have hl := h.lt
  obtain ⟨hv, T, hb, hr, hT⟩ := h.head
  exact ⟨⟨hv, T, (hk.block m hl hm).trans hb, hr.kept hk fun k t => hd k (hT k t).1, hT⟩, fun x hx => ⟨(hk.block x.g (Array.getElem?_eq_some_iff.1 (h.held x hx).1).1 (hd _ (h.held x hx).2)).trans (h.held x hx).1, (h.held x hx).2⟩, h.once, h.noM⟩
theorem DPoolAt.nob {w w' : World} {m md : Nat} {Q : DPl} {S : Nat → Prop} (h : DPoolAt w m md Q S) (hk : Kept Nob w w') : DPoolAt w' m md Q S := h.kept hk (fun f => f) (fun _ _ f => f)
def DPl.find (Q : DPl) (k : Int) : Option DHd := Q.all.find? fun x => ((x.n : Int) == k)
theorem find_drop {l : List DHd} {k : Int} {j : Nat} (h : j < l.length) : (l.drop j).find? (fun x => ((x.n : Int) == k)) = if ((l[j].n : Int) == k) = true then some l[j] else (l.drop (j + 1)).find? (fun x => ((x.n : Int) == k)) := by
  rw [List.drop_eq_getElem_cons h, List.find?_cons]
  split <;> simp_all
set_option maxRecDepth 100000 in
theorem doc_find (w : World) (m md : Nat) (Q : DPl) (S : Nat → Prop) (h : DPoolAt w m md Q S) (hlen : Q.all.length ≤ 1000) (k : Int) :
    Calls Tryz.prog 86 #[.pointer (some ⟨m, 0, none⟩), .int .i64 k] w fun e w' => e = .returned (ptrOf ((Q.find k).map (·.g))) ∧ w = w' := by
  obtain ⟨hv, T, hb, hr, -⟩ := h.head
  obtain ⟨a, c, rfl, -⟩ := hr.shape
  have hl : Q.ptrs.length = Q.all.length := by simp [DPl.ptrs]
  rw [hl] at hb hr
  have c3 := cell_at hb 3 _ rfl
  have HR := Lib.hid hr
  have HH := Lib.hid h.held
  have HF : Hid (Q.find k = (Q.all.drop 0).find? fun x => ((x.n : Int) == k)) := Lib.hid rfl
  unfold DPl.ptrs at HR
  clear hr hl hb h
  generalize Q.all = l at *
  generalize Q.find k = f at *
  go_enter Tryz.func86, Tryz.ntmps86
  go_wp2
  go_loop [5] (fun i => ∃ j : Nat, j ≤ l.length ∧ i = .int .i64 j ∧ Hid (f = (l.drop j).find? fun x => ((x.n : Int) == k))) (fun i => l.length - (intOf i).toNat)
  case atStart => exact ⟨0, Nat.zero_le _, rfl, HF⟩
  case round =>
    clear HF
    obtain ⟨j, hj, rfl, hf⟩ := hrel
    by_cases hlt : j < l.length
    · obtain ⟨b, o, y, rfl, hy, hc, -⟩ := HR.out.cell (i := j) (by simpa using hlt)
      obtain rfl : y = .pointer (some ⟨l[j].g, 0, none⟩) := by
        rw [List.getElem?_map, List.getElem?_eq_getElem hlt] at hy
        exact (Option.some.inj hy).symm
      clear hy
      have hg0 : w.cell? ⟨l[j].g, 0, none⟩ = some (.int .i64 l[j].n) := cell_at (HH.out _ (List.getElem_mem hlt)).1 0 _ rfl
      have HD := Lib.hid (find_drop (k := k) hlt)
      generalize l[j] = x at *
      by_cases hx : ((x.n : Int) == k) = true
      · have HX : Hid (f = some x) := Lib.hid (by rw [hf.out, HD.out, if_pos hx])
        clear hf HD
        go_wp2_with fail
        go_ret
        exact ⟨by rw [HX.out]; rfl, rfl⟩
      · have HX : Hid (f = (l.drop (j + 1)).find? fun x => ((x.n : Int) == k)) := Lib.hid (by rw [hf.out, HD.out, if_neg hx])
        have hx' : ((x.n : Int) == k) = false := by simpa using hx
        clear hf HD hx
        go_wp2_with fail
        go_round
        case rel => exact ⟨j + 1, by omega, by go_num, HX⟩
        case measure => simp [intOf]; omega
    · obtain rfl : j = l.length := by omega
      have HX : Hid (f = none) := Lib.hid (by rw [hf.out, List.drop_length]; rfl)
      clear hf
      go_wp2_with fail
      go_ret
      exact ⟨by rw [HX.out]; rfl, rfl⟩
theorem DPoolAt.turn {w w' : World} {m md : Nat} {Q Q' : DPl} {S : Nat → Prop} (h : DPoolAt w m md Q S) (hk : Kept (Just m) w w') (ha : Q'.all = Q.all)
    (hb' : ∀ hv, w.heap[m]? = some (.cells #[.pointer (some ⟨md, 0, none⟩), .int .i64 Q.pages, .int .i64 Q.room, hv, .int .i64 Q.mark, .int .i64 Q.clock, .int .i64 Q.hits, .int .i64 Q.reads, .int .i64 Q.wrote] 117 (0, 0)) →
      w'.heap[m]? = some (.cells #[.pointer (some ⟨md, 0, none⟩), .int .i64 Q'.pages, .int .i64 Q'.room, hv, .int .i64 Q'.mark, .int .i64 Q'.clock, .int .i64 Q'.hits, .int .i64 Q'.reads, .int .i64 Q'.wrote] 117 (0, 0))) : DPoolAt w' m md Q' S := by
  obtain ⟨hv, T, hb, hr, hT⟩ := h.head
  have hd : ∀ k, S k → ¬ Just m k := fun k hk hj => h.noM (by rw [show k = m from hj] at hk; exact hk)
  have hp : Q'.ptrs = Q.ptrs := by unfold DPl.ptrs; rw [ha]
  refine ⟨⟨hv, T, hb' hv hb, by rw [hp]; exact hr.kept hk fun k t => hd k (hT k t).1, by rw [ha]; exact hT⟩, ?_, by rw [ha]; exact h.once, h.noM⟩
  rw [ha]
  exact fun x hx => ⟨(hk.block x.g (Array.getElem?_eq_some_iff.1 (h.held x hx).1).1 (hd _ (h.held x hx).2)).trans (h.held x hx).1, (h.held x hx).2⟩
set_option maxRecDepth 100000 in
theorem doc_log (w : World) (m md : Nat) (Q : DPl) (S : Nat → Prop) (h : DPoolAt w m md Q S) (n : Int) :
    Calls Tryz.prog 54 #[.pointer (some ⟨m, 0, none⟩), .int .i64 n] w fun e w' => e = .returned (.tuple #[]) ∧ DPoolAt w' m md { Q with mark := max Q.mark n } S ∧ Kept (Just m) w w' := by
  obtain ⟨hv, T, hb, -, -⟩ := h.head
  have c4 := cell_at hb 4 _ rfl
  have f4 := frozen_at hb 4
  have HP := Lib.hid h
  clear hb h
  go_enter Tryz.func54, Tryz.ntmps54
  go_wp2_with fail
  all_goals
    refine bodyPost_end (results_none rfl _ _ _) rfl ?_
    first
      | (have hm : max Q.mark n = n := by omega
         exact ⟨rfl, HP.out.turn (kept1 w m 4 _) rfl (fun hv hb => by
           have h2 := heap_set w m 4 _ _ (.int .i64 n) hb
           simp only [hm]
           exact h2), kept1 w m 4 _⟩)
      | (have hm : max Q.mark n = Q.mark := by omega
         exact ⟨rfl, HP.out.turn (kept1 w m 4 _) rfl (fun hv hb => by
           have h2 := heap_set w m 4 _ _ (.int .i64 Q.mark) hb
           simp only [hm]
           exact h2), kept1 w m 4 _⟩)
def DPl.set (Q : DPl) (x' : DHd) : DPl := { Q with all := Q.all.map fun x => if x.n = x'.n then x' else x }
theorem DPoolAt.same {w : World} {m md : Nat} {Q : DPl} {S : Nat → Prop} (h : DPoolAt w m md Q S) {x y : DHd} (hx : x ∈ Q.all) (hy : y ∈ Q.all) (e : x.g = y.g ∨ x.n = y.n) : x = y := by
  have ho := h.once
  generalize Q.all = l at *
  induction l with
  | nil => cases hx
  | cons a r ih =>
    rw [List.pairwise_cons] at ho
    rcases List.mem_cons.1 hx with hx1 | hx1 <;> rcases List.mem_cons.1 hy with hy1 | hy1
    · rw [hx1, hy1]
    · exact absurd e (by have := ho.1 y hy1; rw [hx1]; omega)
    · exact absurd e (by have := ho.1 x hx1; rw [hy1]; omega)
    · exact ih hx1 hy1 ho.2
theorem DPl.set_ptrs {Q : DPl} {x x' : DHd} (hu : ∀ y ∈ Q.all, y.n = x.n → y = x) (hn : x'.n = x.n) (hg : x'.g = x.g) : (Q.set x').ptrs = Q.ptrs := by
  unfold DPl.ptrs DPl.set
  simp only [List.map_map]
  refine List.map_congr_left fun y hy => ?_
  show Value.pointer (some ⟨(if y.n = x'.n then x' else y).g, 0, none⟩) = _
  split
  · rename_i e
    rw [hu y hy (e.trans hn), hg]
  · rfl
theorem DPoolAt.inner {w w' : World} {m md : Nat} {Q : DPl} {S : Nat → Prop} (h : DPoolAt w m md Q S) {x : DHd} (hx : x ∈ Q.all) (x' : DHd) (hn : x'.n = x.n) (hg : x'.g = x.g) (hk : Kept (Just x.g) w w')
    (hb : w'.heap[x.g]? = some (.cells x'.cells 153 (0, 0))) : DPoolAt w' m md (Q.set x') S := by
  have hSx := (h.held _ hx).2
  have hu : ∀ y ∈ Q.all, y.n = x.n → y = x := fun y hy e => h.same hy hx (.inr e)
  obtain ⟨hv, T, hb0, hr, hT⟩ := h.head
  have hnm : ¬ Just x.g m := fun e => h.noM (by rw [show m = x.g from e]; exact hSx)
  have hmem : ∀ y ∈ (Q.set x').all, ∃ z ∈ Q.all, y.g = z.g ∧ y.n = z.n ∧ (y = z ∧ z.n ≠ x.n ∨ y = x' ∧ z = x) := fun y hy => by
    simp only [DPl.set, List.mem_map] at hy
    obtain ⟨z, hz, rfl⟩ := hy
    split
    · rename_i e
      have := hu z hz (e.trans hn)
      subst this
      exact ⟨z, hz, hg, hn, .inr ⟨rfl, rfl⟩⟩
    · rename_i e
      exact ⟨z, hz, rfl, rfl, .inl ⟨rfl, fun q => e (q.trans hn.symm)⟩⟩
  refine ⟨⟨hv, T, (hk.block m h.lt hnm).trans hb0, by rw [DPl.set_ptrs hu hn hg]; exact hr.kept hk fun k t e => (hT k t).2 x hx (by rw [show k = x.g from e]), fun k t => ⟨(hT k t).1, fun y hy => ?_⟩⟩, fun y hy => ?_, ?_, h.noM⟩
  · obtain ⟨z, hz, e, -⟩ := hmem y hy
    rw [e]
    exact (hT k t).2 z hz
  · obtain ⟨z, hz, e1, e2, e3⟩ := hmem y hy
    rcases e3 with ⟨rfl, hne⟩ | ⟨rfl, rfl⟩
    · have hne2 : ¬ Just x.g y.g := fun q => hne (congrArg DHd.n (h.same hz hx (.inl q)))
      exact ⟨(hk.block _ (Array.getElem?_eq_some_iff.1 (h.held y hz).1).1 hne2).trans (h.held y hz).1, (h.held y hz).2⟩
    · rw [hg]
      exact ⟨hb, hSx⟩
  · rw [DPl.set]
    refine List.pairwise_map.2 (h.once.imp_of_mem fun {p q} hp hq hpq => ?_)
    have e : ∀ r ∈ Q.all, (if r.n = x'.n then x' else r).g = r.g ∧ (if r.n = x'.n then x' else r).n = r.n := fun r hr => by
      split
      · rename_i e
        have := hu r hr (e.trans hn)
        subst this
        exact ⟨hg, hn⟩
      · exact ⟨rfl, rfl⟩
    rw [(e p hp).1, (e q hq).1, (e p hp).2, (e q hq).2]
    exact hpq
theorem DPl.find_mem {Q : DPl} {k : Int} {x : DHd} (h : Q.find k = some x) : x ∈ Q.all ∧ (x.n : Int) = k := by
  unfold DPl.find at h
  exact ⟨List.mem_of_find?_eq_some h, by simpa using List.find?_some h⟩
def DHd.less (x : DHd) (y : Bool) (n : Int) : DHd := { x with pins := x.pins - 1, dirty := x.dirty || y, lsn := if y then max x.lsn n else x.lsn }
set_option maxRecDepth 100000 in
theorem doc_unpin_no (w : World) (m md : Nat) (Q : DPl) (S : Nat → Prop) (h : DPoolAt w m md Q S) (hlen : Q.all.length ≤ 1000) (k n : Int) (y : Bool) (hno : Q.find k = none) :
    Calls Tryz.prog 53 #[.pointer (some ⟨m, 0, none⟩), .int .i64 k, .bool y, .int .i64 n] w fun e w' => e = .returned (.int .i64 14) ∧ w = w' := by
  have HF := Lib.hid (doc_find w m md Q S h hlen k)
  rw [hno] at HF
  simp only [Option.map_none, ptrOf] at HF
  clear h hno
  go_enter Tryz.func53, Tryz.ntmps53
  go_wp2_with (refine HF.out.mono ?_; rintro e w' ⟨rfl, rfl⟩)
  go_ret
  exact ⟨rfl, rfl⟩
set_option maxRecDepth 100000 in
theorem doc_unpin_zero (w : World) (m md : Nat) (Q : DPl) (S : Nat → Prop) (h : DPoolAt w m md Q S) (hlen : Q.all.length ≤ 1000) (k n : Int) (y : Bool) (x : DHd) (hx : Q.find k = some x) (hp : x.pins = 0) :
    Calls Tryz.prog 53 #[.pointer (some ⟨m, 0, none⟩), .int .i64 k, .bool y, .int .i64 n] w fun e w' => e = .returned (.int .i64 14) ∧ w = w' := by
  have HF := Lib.hid (doc_find w m md Q S h hlen k)
  rw [hx] at HF
  simp only [Option.map_some, ptrOf] at HF
  have d2 : w.cell? ⟨x.g, 2, none⟩ = some (.int .i64 x.pins) := cell_at (h.held _ (DPl.find_mem hx).1).1 2 _ rfl
  rw [hp] at d2
  clear h hx hp
  go_enter Tryz.func53, Tryz.ntmps53
  go_wp2_with (refine HF.out.mono ?_; rintro e w' ⟨rfl, rfl⟩)
  go_ret
  exact ⟨rfl, rfl⟩
set_option maxRecDepth 100000 in
theorem doc_unpin (w : World) (m md : Nat) (Q : DPl) (S : Nat → Prop) (h : DPoolAt w m md Q S) (hlen : Q.all.length ≤ 1000) (k n : Int) (y : Bool) (x : DHd) (hx : Q.find k = some x) (hp : 1 ≤ x.pins) (hq : x.pins ≤ 1000000000000) :
    Calls Tryz.prog 53 #[.pointer (some ⟨m, 0, none⟩), .int .i64 k, .bool y, .int .i64 n] w fun e w' => e = .returned (.int .i64 0) ∧ DPoolAt w' m md (Q.set (x.less y n)) S ∧ Kept S w w' := by
  have HF := Lib.hid (doc_find w m md Q S h hlen k)
  rw [hx] at HF
  simp only [Option.map_some, ptrOf] at HF
  have hxm := (DPl.find_mem hx).1
  have hb := (h.held _ hxm).1
  have d2 : w.cell? ⟨x.g, 2, none⟩ = some (.int .i64 x.pins) := cell_at hb 2 _ rfl
  have d3 : w.cell? ⟨x.g, 3, none⟩ = some (.bool x.dirty) := cell_at hb 3 _ rfl
  have d4 : w.cell? ⟨x.g, 4, none⟩ = some (.int .i64 x.lsn) := cell_at hb 4 _ rfl
  have e2 := frozen_at hb 2
  have e3 := frozen_at hb 3
  have e4 := frozen_at hb 4
  have hz : ¬ (x.pins : Int) = 0 := by omega
  have HP := Lib.hid h
  have HX := Lib.hid hxm
  have HB := Lib.hid hb
  have HS := Lib.hid (h.held _ hxm).2
  have HI := Lib.hid (show ((x.pins - 1 : Nat) : Int) = (x.pins : Int) - 1 by omega)
  clear h hx hb hxm
  cases y with
  | false =>
    go_enter Tryz.func53, Tryz.ntmps53
    go_wp2_with (refine HF.out.mono ?_; rintro e w' ⟨rfl, rfl⟩)
    go_ret
    have k1 := kept1 w x.g 2 (.int .i64 ((x.pins : Int) - 1))
    refine ⟨rfl, HP.out.inner HX.out (x.less false n) rfl rfl k1 ?_, k1.mono fun y _ q => by rw [show y = x.g from q]; exact HS.out⟩
    rw [heap_set w x.g 2 _ _ (.int .i64 ((x.pins : Int) - 1)) HB.out]
    simp only [DHd.less, DHd.cells, Bool.or_false, Bool.false_eq_true, if_false, HI.out]
    rfl
  | true =>
    go_enter Tryz.func53, Tryz.ntmps53
    go_wp2_with (refine HF.out.mono ?_; rintro e w' ⟨rfl, rfl⟩)
    all_goals
      go_ret
      refine ⟨rfl, HP.out.inner HX.out (x.less true n) rfl rfl (((kept1 w x.g 2 _).trans' (kept1 _ x.g 4 _)).trans' (kept1 _ x.g 3 _)) ?_, (((kept1 w x.g 2 _).trans' (kept1 _ x.g 4 _)).trans' (kept1 _ x.g 3 _)).mono fun y _ q => by rw [show y = x.g from q]; exact HS.out⟩
      rw [heap_set _ x.g 3 _ _ _ (heap_set _ x.g 4 _ _ _ (heap_set w x.g 2 _ _ _ HB.out))]
      first
        | (have hm : max x.lsn n = n := by omega
           simp only [DHd.less, DHd.cells, Bool.or_true, if_true, HI.out, hm]
           rfl)
        | (have hm : max x.lsn n = x.lsn := by omega
           simp only [DHd.less, DHd.cells, Bool.or_true, if_true, HI.out, hm]
           rfl)
def DPl.nums (Q : DPl) (dirty : Bool) (j : Nat) : List Int := ((List.range j).filter fun n : Nat => match Q.find n with | some x => !dirty || x.dirty | none => false).map fun n : Nat => (n : Int)
theorem DPl.nums_succ (Q : DPl) (dirty : Bool) (j : Nat) : Q.nums dirty (j + 1) = Q.nums dirty j ++ if (match Q.find (j : Nat) with | some x => !dirty || x.dirty | none => false) = true then [(j : Int)] else [] := by
  unfold DPl.nums
  rw [List.range_succ, List.filter_append, List.map_append]
  congr 1
  by_cases h : (match Q.find (j : Nat) with | some x => !dirty || x.dirty | none => false) = true
  · rw [if_pos h, List.filter_cons_of_pos (by simpa using h)]; rfl
  · rw [if_neg h, List.filter_cons_of_neg (by simpa using h)]; rfl
theorem DPl.nums_len (Q : DPl) (dirty : Bool) (j : Nat) : (Q.nums dirty j).length ≤ j := by
  unfold DPl.nums
  rw [List.length_map]
  exact Nat.le_trans (List.length_filter_le _ _) (by simp)
theorem tIntsD : Plain Tryz.prog 36 3 (.int .i64 0) 8 := Plain.of Tryz.underlying36 (by kernel_rfl) rfl
def NumRel (w : World) (Q : DPl) (dirty : Bool) (j : Nat) (v : Value) (wr : World) : Prop :=
  ∃ b c, v = .slice b (Q.nums dirty j).length c ∧ Own wr 3 v ((Q.nums dirty j).map (Value.int .i64)) (From w.heap.size) ∧ Kept Nob w wr
theorem NumRel.more {w wq w4 : World} {Q : DPl} {dirty : Bool} {j : Nat} {b : Option Addr} {n c : Nat} (h : NumRel w Q dirty j (.slice b n c) wq) (hs : Q.nums dirty (j + 1) = Q.nums dirty j ++ [(j : Int)]) {g2 cap2 : Nat} {o : Obj}
    (ho4 : Own w4 3 (.slice (some ⟨g2, 0, none⟩) (n + 1) cap2) ((Q.nums dirty j).map (Value.int .i64) ++ [.int .i64 j]) (fun y => (Value.slice b n c).ownBlock = some y ∨ (wq.alloc o).heap.size ≤ y)) (hk4 : Kept (fun y => (Value.slice b n c).ownBlock = some y) (wq.alloc o) w4) :
    NumRel w Q dirty (j + 1) (.slice (some ⟨g2, 0, none⟩) (n + 1) cap2) w4 := by
  obtain ⟨b', c', e, ho, hk⟩ := h
  simp only [Value.slice.injEq] at e
  obtain ⟨rfl, rfl, rfl⟩ := e
  have hs' := hk.size
  refine ⟨some ⟨g2, 0, none⟩, cap2, by rw [hs]; simp, ?_, (hk.then (Kept.alloc Nob wq o)).from (Nat.le_refl _) (hk4.mono fun y _ e => ho.2 y e)⟩
  rw [hs, List.map_append]
  refine ho4.mono fun y _ e => ?_
  rcases e with e | e
  · exact ho.2 y e
  · simp at e; show _ ≤ _; omega
theorem NumRel.same {w wq : World} {Q : DPl} {dirty : Bool} {j : Nat} {v : Value} (h : NumRel w Q dirty j v wq) (hs : Q.nums dirty (j + 1) = Q.nums dirty j) : NumRel w Q dirty (j + 1) v wq := by
  obtain ⟨b', c', e, ho, hk⟩ := h
  exact ⟨b', c', by rw [hs]; exact e, by rw [hs]; exact ho, hk⟩
set_option maxRecDepth 100000 in
theorem doc_numbers (w : World) (m md : Nat) (Q : DPl) (S : Nat → Prop) (h : DPoolAt w m md Q S) (hlen : Q.all.length ≤ 1000) (hpg : Q.pages ≤ 100000) (y : Bool) :
    Calls Tryz.prog 61 #[.pointer (some ⟨m, 0, none⟩), .bool y] w fun e w' => ∃ v, e = .returned v ∧ NumRel w Q y Q.pages v w' := by
  have HF := fun (wx : World) (kx : Kept Nob w wx) (k : Int) => Lib.hid (doc_find wx m md Q S (h.nob kx) hlen k)
  have HP := Lib.hid h
  obtain ⟨hv, T, hb, -, -⟩ := h.head
  have HB := Lib.hid hb
  have HR0 : Hid (NumRel w Q y 0 (.slice none 0 0) w) := Lib.hid ⟨none, 0, rfl, Own.nil _ _ _, Kept.refl _ _⟩
  clear h hb
  go_enter Tryz.func61, Tryz.ntmps61
  go_wp2
  go_loopw [5, 6] (fun r i wr => ∃ j : Nat, j ≤ Q.pages ∧ i = .int .i64 j ∧ NumRel w Q y j r wr) (fun _ i _ => Q.pages - (intOf i).toNat)
  case atStart => exact ⟨0, Nat.zero_le _, rfl, HR0.out⟩
  case round =>
    clear HR0
    obtain ⟨j, hj, rfl, b, c, rfl, ho, hk⟩ := hrel
    have HO := Lib.hid ho
    have HK := Lib.hid hk
    have c1 := (cell_at (((hk.block m (Array.getElem?_eq_some_iff.1 HB.out).1 (fun f => f)).trans HB.out)) 1 _ rfl : wr.cell? ⟨m, 1, none⟩ = some (.int .i64 Q.pages))
    clear ho hk
    by_cases hlt : j < Q.pages
    · have HSt := Lib.hid (DPl.nums_succ Q y j)
      have hnl := DPl.nums_len Q y j
      have HR : Hid (NumRel w Q y j (.slice b (Q.nums y j).length c) wr) := Lib.hid ⟨b, c, rfl, HO.out, HK.out⟩
      have HFj := HF wr HK.out (j : Int)
      cases hf : Q.find (j : Nat) with
      | none =>
        have HSt' : Q.nums y (j + 1) = Q.nums y j := by have h := HSt.out; rw [hf] at h; simpa using h
        have HSt := Lib.hid HSt'
        rw [hf] at HFj
        simp only [Option.map_none, ptrOf] at HFj
        clear hf HSt'
        · go_wp2_with (refine HFj.out.mono ?_; rintro e w' ⟨rfl, rfl⟩)
          go_roundw
          case rel => exact ⟨j + 1, by omega, by go_num, HR.out.same HSt.out⟩
          case measure => simp [intOf]; omega
      | some x =>
        have d3 : wr.cell? ⟨x.g, 3, none⟩ = some (.bool x.dirty) := cell_at (((HP.out.nob HK.out).held x (DPl.find_mem hf).1).1) 3 _ rfl
        have HS2 : Hid (Q.nums y (j + 1) = Q.nums y j ++ if (!y || x.dirty) = true then [(j : Int)] else []) := Lib.hid (by have h := HSt.out; rw [hf] at h; exact h)
        rw [hf] at HFj
        simp only [Option.map_some, ptrOf] at HFj
        clear hf HSt
        cases y with
        | false =>
          have HSt : Q.nums false (j + 1) = Q.nums false j ++ [(j : Int)] := by have h := HS2.out; simpa using h
          have HSt := Lib.hid HSt
          go_wp2_with (first | (refine HFj.out.mono ?_; rintro e w' ⟨rfl, rfl⟩) | (at_builtin; refine wpList_append1_pg rfl _ _ 36 rfl tIntsD (.slice b (Q.nums false j).length c) ((Q.nums false j).map (Value.int .i64)) (.int .i64 j) (From w.heap.size) ⟨wr.heap.size, 0, none⟩ 1 rfl rfl (HO.out.alloc _) (by simp) rfl (Nat.le_refl _) rfl (by rw [List.length_map]; omega) ?_; intro g2 cap2 w4 ho4 hk4; rw [List.length_map] at ho4 ⊢; have HN := Lib.hid (HR.out.more HSt.out ho4 hk4); clear ho4 hk4))
          go_roundw
          case rel => exact ⟨j + 1, by omega, by go_num, HN.out⟩
          case measure => simp [intOf]; omega
        | true =>
          cases hd : x.dirty with
          | false =>
            rw [hd] at d3 HS2
            have HSt := Lib.hid (show Q.nums true (j + 1) = Q.nums true j by have h := HS2.out; simpa using h)
            clear hd
            go_wp2_with (refine HFj.out.mono ?_; rintro e w' ⟨rfl, rfl⟩)
            go_roundw
            case rel => exact ⟨j + 1, by omega, by go_num, HR.out.same HSt.out⟩
            case measure => simp [intOf]; omega
          | true =>
            rw [hd] at d3 HS2
            have HSt := Lib.hid (show Q.nums true (j + 1) = Q.nums true j ++ [(j : Int)] by have h := HS2.out; simpa using h)
            clear hd
            go_wp2_with (first | (refine HFj.out.mono ?_; rintro e w' ⟨rfl, rfl⟩) | (at_builtin; refine wpList_append1_pg rfl _ _ 36 rfl tIntsD (.slice b (Q.nums true j).length c) ((Q.nums true j).map (Value.int .i64)) (.int .i64 j) (From w.heap.size) ⟨wr.heap.size, 0, none⟩ 1 rfl rfl (HO.out.alloc _) (by simp) rfl (Nat.le_refl _) rfl (by rw [List.length_map]; omega) ?_; intro g2 cap2 w4 ho4 hk4; rw [List.length_map] at ho4 ⊢; have HN := Lib.hid (HR.out.more HSt.out ho4 hk4); clear ho4 hk4))
            go_roundw
            case rel => exact ⟨j + 1, by omega, by go_num, HN.out⟩
            case measure => simp [intOf]; omega
    · obtain rfl : j = Q.pages := by omega
      go_wp2_with fail
      go_ret
      exact ⟨_, rfl, b, c, rfl, HO.out, HK.out⟩
def DPl.none (pages room : Nat) : DPl := ⟨pages, room, 0, 0, 0, 0, 0, []⟩
theorem doc_newpool_no (w : World) (md : Nat) (d : Dsk) (R : Nat → Prop) (hD : DocAt w md d R) (pages room : Int) (h : pages < 1 ∨ ((d.good.length / 8 : Nat) : Int) < pages ∨ room < 1 ∨ 100 < room) :
    Calls Tryz.prog 85 #[.pointer (some ⟨md, 0, none⟩), .int .i64 pages, .int .i64 room] w fun e w' => e = .returned (.tuple #[.pointer none, .int .i64 1]) ∧ w = w' := by
  have hmost := hD.wf.most
  obtain ⟨gv, av, nv, gs, ns, left, hb, hR, h1, h2, h3, h4, -⟩ := hD
  obtain ⟨a, c, rfl, -⟩ := h1.shape
  rw [h4.1] at hb
  have c0 : w.cell? ⟨md, 0, none⟩ = some (.slice a d.good.length c) := cell_at hb 0 _ rfl
  clear hb h1 h2 h3 h4 hR
  generalize d.good.length = n at *
  go_enter Tryz.func85, Tryz.ntmps85
  rcases (show pages < 1 ∨ (1 ≤ pages ∧ ((n / 8 : Nat) : Int) < pages) ∨ (1 ≤ pages ∧ pages ≤ ((n / 8 : Nat) : Int) ∧ room < 1) ∨ (1 ≤ pages ∧ pages ≤ ((n / 8 : Nat) : Int) ∧ 1 ≤ room ∧ 100 < room) by omega) with h | ⟨h', h⟩ | ⟨h', h'', h⟩ | ⟨h', h'', h''', h⟩
  all_goals
    go_wp2_with fail
    go_ret2
    exact ⟨rfl, rfl⟩
theorem doc_newpool (w : World) (md : Nat) (d : Dsk) (R : Nat → Prop) (hD : DocAt w md d R) (pages room : Nat) (h1 : 1 ≤ pages) (h2 : pages ≤ d.good.length / 8) (h3 : 1 ≤ room) (h4 : room ≤ 100) :
    Calls Tryz.prog 85 #[.pointer (some ⟨md, 0, none⟩), .int .i64 pages, .int .i64 room] w fun e w' => e = .returned (.tuple #[.pointer (some ⟨w.heap.size, 0, none⟩), .int .i64 0]) ∧ DPoolAt w' w.heap.size md (DPl.none pages room) Nob ∧ Kept Nob w w' := by
  have hmost := hD.wf.most
  obtain ⟨gv, av, nv, gs, ns, left, hb, hR, q1, q2, q3, q4, -⟩ := hD
  obtain ⟨a, c, rfl, -⟩ := q1.shape
  rw [q4.1] at hb
  have c0 : w.cell? ⟨md, 0, none⟩ = some (.slice a d.good.length c) := cell_at hb 0 _ rfl
  clear hb q1 q2 q3 q4 hR
  generalize d.good.length = n at *
  have h2' : (pages : Int) ≤ ((n / 8 : Nat) : Int) := by omega
  go_enter Tryz.func85, Tryz.ntmps85
  go_wp2_with fail
  go_ret2
  exact ⟨rfl, ⟨⟨_, Nob, heap_alloc_new w _, .inl ⟨rfl, none, 0, rfl, fun _ => rfl⟩, fun k f => f.elim⟩, (fun x hx => by cases hx), List.Pairwise.nil, fun f => f⟩, Kept.alloc _ _ _⟩
theorem tHelds : Plain Tryz.prog 115 150 (.pointer none) 8 := Plain.of Tryz.underlying115 (by kernel_rfl) rfl
def ptrsOf (l : List DHd) : List Value := l.map fun x => .pointer (some ⟨x.g, 0, none⟩)
theorem DPl.ptrs_of (Q : DPl) : Q.ptrs = ptrsOf Q.all := rfl
def leftOf (n : Nat) (l : List DHd) : List DHd := l.filter fun y => !(y.n == n)
theorem leftOf_take (n : Nat) (l : List DHd) (j : Nat) (h : j < l.length) : leftOf n (l.take (j + 1)) = leftOf n (l.take j) ++ if l[j].n = n then [] else [l[j]] := by
  unfold leftOf
  rw [List.take_succ_eq_append_getElem h, List.filter_append]
  congr 1
  by_cases e : l[j].n = n
  · rw [if_pos e, List.filter_cons_of_neg (by simpa using e)]; rfl
  · rw [if_neg e, List.filter_cons_of_pos (by simpa using e)]; rfl
theorem leftOf_len (n : Nat) (l : List DHd) : (leftOf n l).length ≤ l.length := List.length_filter_le _ _
def DPl.del (Q : DPl) (n : Nat) : DPl := { Q with all := leftOf n Q.all }
def LeftRel (w : World) (l : List DHd) (v : Value) (wr : World) : Prop :=
  ∃ b c, v = .slice b l.length c ∧ Own wr 150 v (ptrsOf l) (From w.heap.size) ∧ Kept Nob w wr
theorem ptrsOf_len (l : List DHd) : (ptrsOf l).length = l.length := by simp [ptrsOf]
theorem DPoolAt.rerow {w w' : World} {m md : Nat} {Q Q' : DPl} {S T' : Nat → Prop} {hv' : Value} (h : DPoolAt w m md Q S) (hk : Kept (Just m) w w')
    (hb : w'.heap[m]? = some (.cells #[.pointer (some ⟨md, 0, none⟩), .int .i64 Q'.pages, .int .i64 Q'.room, hv', .int .i64 Q'.mark, .int .i64 Q'.clock, .int .i64 Q'.hits, .int .i64 Q'.reads, .int .i64 Q'.wrote] 117 (0, 0)))
    (hr : Reads w' hv' Q'.ptrs T') (hT : ∀ k, T' k → w.heap.size ≤ k) (hS : Under S w.heap.size) (ha : ∀ x ∈ Q'.all, x ∈ Q.all) (ho : Q'.all.Pairwise fun x y => x.g ≠ y.g ∧ x.n ≠ y.n) :
    DPoolAt w' m md Q' (fun k => S k ∨ w.heap.size ≤ k) := by
  have hml := h.lt
  refine ⟨⟨hv', T', hb, hr, fun k t => ⟨.inr (hT k t), fun x hx e => ?_⟩⟩, fun x hx => ?_, ho, fun e => e.elim h.noM (fun e => by omega)⟩
  · have h1 := hS _ (h.held x (ha x hx)).2
    have h2 := hT k t
    omega
  · have hx' := h.held x (ha x hx)
    have hne : ¬ Just m x.g := fun e => h.noM (by rw [← show x.g = m from e]; exact hx'.2)
    exact ⟨(hk.block x.g (Array.getElem?_eq_some_iff.1 hx'.1).1 hne).trans hx'.1, .inl hx'.2⟩
def RetDrop (w : World) (m md : Nat) (Q : DPl) (n : Nat) (S : Nat → Prop) (en : Ending) (w' : World) : Prop :=
  en = .returned (.tuple #[]) ∧ (∃ S', DPoolAt w' m md (Q.del n) S' ∧ Grows S w.heap.size S') ∧ Kept (Just m) w w'
set_option maxRecDepth 100000 in
set_option maxHeartbeats 2000000 in
theorem doc_drop (w : World) (m md : Nat) (Q : DPl) (S : Nat → Prop) (h : DPoolAt w m md Q S) (hS : Under S w.heap.size) (hlen : Q.all.length ≤ 1000) (x : DHd) (hx : x ∈ Q.all) :
    Calls Tryz.prog 89 #[.pointer (some ⟨m, 0, none⟩), .pointer (some ⟨x.g, 0, none⟩)] w (RetDrop w m md Q x.n S) := by
  have HP := Lib.hid h
  obtain ⟨hv, T, hb, hr, -⟩ := h.head
  obtain ⟨a, c, rfl, -⟩ := hr.shape
  rw [DPl.ptrs_of] at hr
  rw [DPl.ptrs_of, ptrsOf_len] at hb
  rw [ptrsOf_len] at hr
  have HB := Lib.hid hb
  have HR := Lib.hid hr
  have HS := Lib.hid hS
  have HX := Lib.hid hx
  have HR0 : Hid (LeftRel w (leftOf x.n (Q.all.take 0)) (.slice none 0 0) w) := Lib.hid ⟨none, 0, rfl, Own.nil _ _ _, Kept.refl _ _⟩
  clear h hb hr hS hx
  go_enter Tryz.func89, Tryz.ntmps89
  go_wp2
  go_loopw [4, 5] (fun v i wr => ∃ j : Nat, j ≤ Q.all.length ∧ i = .int .i64 j ∧ LeftRel w (leftOf x.n (Q.all.take j)) v wr) (fun _ i _ => Q.all.length - (intOf i).toNat)
  case atStart => exact ⟨0, Nat.zero_le _, rfl, HR0.out⟩
  case round =>
    clear HR0
    obtain ⟨j, hj, rfl, b, cp, rfl, ho, hk⟩ := hrel
    have HO := Lib.hid ho
    have HK := Lib.hid hk
    have hbw := (hk.block m (Array.getElem?_eq_some_iff.1 HB.out).1 (fun f => f)).trans HB.out
    have c3 : wr.cell? ⟨m, 3, none⟩ = some (.slice a Q.all.length c) := cell_at hbw 3 _ rfl
    have f3 := frozen_at hbw 3
    have HBw := Lib.hid hbw
    clear ho hk hbw
    by_cases hlt : j < Q.all.length
    · have HT := Lib.hid (leftOf_take x.n Q.all j hlt)
      have hll := leftOf_len x.n (Q.all.take j)
      rw [List.length_take] at hll
      have hll2 : (leftOf x.n (Q.all.take j)).length ≤ 1000 := by omega
      obtain ⟨gb, go, u, rfl, hu, hc, -⟩ := (HR.out.kept HK.out (fun _ _ f => f)).cell (i := j) (by rw [ptrsOf_len]; exact hlt)
      obtain rfl : u = .pointer (some ⟨Q.all[j].g, 0, none⟩) := by
        rw [ptrsOf, List.getElem?_map, List.getElem?_eq_getElem hlt] at hu
        exact (Option.some.inj hu).symm
      clear hu hll
      have d0 : wr.cell? ⟨Q.all[j].g, 0, none⟩ = some (.int .i64 Q.all[j].n) := cell_at ((HP.out.nob HK.out).held _ (List.getElem_mem hlt)).1 0 _ rfl
      have d1 : wr.cell? ⟨x.g, 0, none⟩ = some (.int .i64 x.n) := cell_at ((HP.out.nob HK.out).held _ HX.out).1 0 _ rfl
      generalize Q.all[j] = y at *
      generalize hzs : leftOf x.n (Q.all.take j) = zs at *
      clear hzs
      go_wp2_with fail
      go_quiet (fail)
      have HKq := Lib.hid (Kept.drewN Nob wr nq)
      have c3q : (wr.drewN nq).cell? ⟨m, 3, none⟩ = some (.slice (some ⟨gb, go, none⟩) Q.all.length c) := c3
      have hcq : (wr.drewN nq).cell? ⟨gb, go + j, none⟩ = some (.pointer (some ⟨y.g, 0, none⟩)) := hc
      have HOq := Lib.hid (HO.out.kept HKq.out (fun _ _ f => f))
      clear c3 hc d0 d1 f3
      generalize wr.drewN nq = wq at *
      by_cases he : y.n = x.n
      · have HN : Hid (LeftRel w (leftOf x.n (Q.all.take (j + 1))) (.slice b zs.length cp) wq) := Lib.hid (by
          rw [HT.out, if_pos he, List.append_nil]
          exact ⟨b, cp, rfl, HOq.out, HK.out.then HKq.out⟩)
        have hen : (y.n : Int) = (x.n : Int) := by omega
        clear he
        go_wp2_with fail
        go_roundw
        case rel => exact ⟨j + 1, by omega, by go_num, HN.out⟩
        case measure => simp [intOf]; omega
      · have hen : ¬ (y.n : Int) = (x.n : Int) := by omega
        have HE : Hid (leftOf x.n (Q.all.take (j + 1)) = zs ++ [y]) := Lib.hid (by rw [HT.out, if_neg he])
        have hsz : ((ptrsOf zs).length + 1) * (8 + 1) ≤ 140737488355328 := by rw [ptrsOf_len]; omega
        clear he
        go_wp2_with (at_builtin; refine wpList_append1_pg rfl _ _ 115 rfl tHelds (.slice b zs.length cp) (ptrsOf zs) (.pointer (some ⟨y.g, 0, none⟩)) _ ⟨wq.heap.size, 0, none⟩ 1 rfl rfl (HOq.out.alloc _) (by simp) rfl (Nat.le_refl _) rfl hsz ?_; intro g2 cap2 w4 ho4 hk4; rw [ptrsOf_len] at ho4 ⊢; have HO4 := Lib.hid ho4; have HK4 := Lib.hid hk4; clear ho4 hk4)
        have HN : Hid (LeftRel w (leftOf x.n (Q.all.take (j + 1))) (.slice (some ⟨g2, 0, none⟩) (zs.length + 1) cap2) w4) := by
          have hl : (zs ++ [y]).length = zs.length + 1 := by simp
          refine Lib.hid ⟨some ⟨g2, 0, none⟩, cap2, by rw [HE.out, hl], ?_, ?_⟩
          · rw [HE.out, show ptrsOf (zs ++ [y]) = ptrsOf zs ++ [.pointer (some ⟨y.g, 0, none⟩)] from by simp [ptrsOf]]
            refine HO4.out.mono fun k _ hk => ?_
            rcases hk with hk | hk
            · exact HO.out.2 k hk
            · have := (HK.out.then HKq.out).size; simp at hk; show _ ≤ _; omega
          · exact ((HK.out.then HKq.out).then (Kept.alloc Nob wq _)).from (Nat.le_refl _) (HK4.out.mono fun k _ hk => HO.out.2 k hk)
        go_roundw
        case rel => exact ⟨j + 1, by omega, by go_num, HN.out⟩
        case measure => simp [intOf]; omega
    · obtain rfl : j = Q.all.length := by omega
      rw [List.take_length] at HO ⊢
      generalize hzs : leftOf x.n Q.all = zs at *
      have HZ := Lib.hid hzs
      clear hzs
      go_wp2_with fail
      refine bodyPost_end (results_none rfl _ _ _) rfl ?_
      have k1 := kept1 wr m 3 (.slice b zs.length cp)
      have hmw : m < wr.heap.size := (Array.getElem?_eq_some_iff.1 HBw.out).1
      have hml := HP.out.lt
      refine ⟨rfl, ⟨_, HP.out.rerow (Q' := Q.del x.n) (hv' := .slice b zs.length cp) (T' := From w.heap.size) (HK.out.nob.trans' k1) ?_ ?_ (fun _ h => h) HS.out ?_ ?_, fun k h => h⟩, HK.out.nob.trans' k1⟩
      · exact (heap_set wr m 3 _ _ (.slice b zs.length cp) HBw.out).trans rfl
      · rw [DPl.ptrs_of, DPl.del, HZ.out]
        exact HO.out.reads.kept k1 (fun k hk e => by have hk : w.heap.size ≤ k := hk; have e : k = m := e; omega)
      · exact fun y hy => (List.mem_filter.1 hy).1
      · exact HP.out.once.filter _
end Go.Proofs.YthppgchmamonnaaGreatDoor
