/- The pool: what it is in memory; gone, Log, Held, Stats. The pool: New, may. The pool: is a byte no nought; New, ID of a page. The pool: read, of a page on which nothing was written. The pool: which page goes; evict, where no page that goes is dirty. The pool: evict. The pool: Pin. The pool: Pin of a page that is not held; refused. The pool: Unpin, Log, Stats. -/
import Derived.Test.YthppgchmamonnaaGreatDoorPq02
import Derived.Test.YthppgchmamonnaaGreatDoorPq06
import Derived.Test.YthppgchmamonnaaGreatDoorPq08
namespace Go.Proofs.YthppgchmamonnaaGreatDoor
open Go.RowKit
structure Hd where
  g : Nat
  pg : Nat
  pins : Nat
  dirty : Bool
  lsn : Int
  used : Nat
structure Pl where
  pages : Nat
  room : Nat
  mark : Int
  clock : Nat
  hits : Nat
  reads : Nat
  wrote : Nat
  all : List (Int × Hd)
def Pl.map (P : Pl) : List (Int × Nat) := P.all.map fun p => (p.1, p.2.g)
structure PoolAt (w : World) (b bd mb : Nat) (P : Pl) (S : Nat → Prop) : Prop where
  head : w.heap[b]? = some (.cells #[.pointer (some ⟨bd, 0, none⟩), .int .i64 P.pages, .int .i64 P.room, .int .i64 P.mark, .int .i64 P.clock, .map (some mb), .int .i64 P.hits, .int .i64 P.reads, .int .i64 P.wrote] 76 (0, 0))
  map : MapAt w mb P.map
  held : ∀ p ∈ P.all, S p.2.g ∧ w.heap[p.2.g]? = some (.cells #[.pointer (some ⟨p.2.pg, 0, none⟩), .int .i64 p.2.pins, .bool p.2.dirty, .int .i64 p.2.lsn, .int .i64 p.2.used] 80 (0, 0))
  once : P.all.Pairwise fun p q => p.2.g ≠ q.2.g
  Sb : ¬ S b
  Sm : ¬ S mb
  bm : b ≠ mb
  under : Under S w.heap.size
theorem PoolAt.lt {w : World} {b bd mb : Nat} {P : Pl} {S : Nat → Prop} (h : PoolAt w b bd mb P S) : b < w.heap.size := (Array.getElem?_eq_some_iff.1 h.head).1
theorem PoolAt.kept {w w' : World} {b bd mb : Nat} {P : Pl} {S G : Nat → Prop} (h : PoolAt w b bd mb P S) (hk : Kept G w w') (hb : ¬ G b) (hm : ¬ G mb) (hS : Disj S G) : PoolAt w' b bd mb P S :=
  ⟨(hk.block b h.lt hb).trans h.head, h.map.kept hk hm, fun p hp => ⟨(h.held p hp).1, (hk.block _ (h.under _ (h.held p hp).1) (hS _ (h.held p hp).1)).trans (h.held p hp).2⟩, h.once, h.Sb, h.Sm, h.bm, h.under.mono hk.size⟩
theorem PoolAt.nob {w w' : World} {b bd mb : Nat} {P : Pl} {S : Nat → Prop} (h : PoolAt w b bd mb P S) (hk : Kept Nob w w') : PoolAt w' b bd mb P S := h.kept hk (fun f => f) (fun f => f) (fun _ _ f => f)
theorem pool_gone (w : World) (b bd mb : Nat) (P : Pl) (S : Nat → Prop) (h : PoolAt w b bd mb P S) :
    Calls Tryz.prog 34 #[.pointer (some ⟨b, 0, none⟩)] w fun e w' => e = .returned (.bool false) ∧ w = w' := by
  have c0 : w.cell? ⟨b, 0, none⟩ = some (.pointer (some ⟨bd, 0, none⟩)) := cell_at h.head 0 _ rfl
  clear h
  go_enter Tryz.func34, Tryz.ntmps34
  go_wp2
  go_ret
  exact ⟨rfl, rfl⟩
def Pl.keys (P : Pl) : List Value := P.all.map fun p => .int .i64 p.1
theorem pool_held (w : World) (b bd mb : Nat) (P : Pl) (S : Nat → Prop) (h : PoolAt w b bd mb P S) (hl : P.all.length ≤ 100000) :
    Calls Tryz.prog 15 #[.pointer (some ⟨b, 0, none⟩)] w fun e w' => ∃ a c, e = .returned (.slice a P.all.length c) ∧ Own w' 3 (.slice a P.all.length c) P.keys (From w.heap.size) ∧ Kept Nob w w' := by
  have HG := Lib.hid (pool_gone w b bd mb P S h)
  have c5 : w.cell? ⟨b, 5, none⟩ = some (.map (some mb)) := cell_at h.head 5 _ rfl
  have hml : P.map.length = P.all.length := by simp [Pl.map]
  have hc := sorted_call w mb P.map h.map (by omega)
  rw [hml, show (P.map.map fun p => Value.int .i64 p.1) = P.keys from by simp [Pl.map, Pl.keys, List.map_map, Function.comp]] at hc
  have HC := Lib.hid hc
  clear h hc hml
  go_enter Tryz.func15, Tryz.ntmps15
  go_wp2_with (first
    | (go_at_call 34; refine HG.out.mono ?_; rintro e w' ⟨rfl, rfl⟩)
    | (go_at_call 39; refine (keys_call _ _).mono ?_; rintro e w' ⟨rfl, rfl⟩)
    | (go_at_call 38; refine HC.out.mono ?_; rintro e w2 ⟨a2, c2, rfl, ho2, hk2, -⟩))
  go_ret
  exact ⟨a2, c2, rfl, ho2, hk2⟩
def opPool : ByteArray := ⟨#[112, 111, 111, 108]⟩
def Pl.none (pages room : Nat) : Pl := ⟨pages, room, 0, 0, 0, 0, 0, []⟩
def RetNoPool (w : World) (en : Ending) (w' : World) : Prop :=
  ∃ g, en = .returned (.tuple #[.pointer none, .iface 81 (.pointer (some ⟨g, 0, none⟩))]) ∧ FaultAt w' (.iface 81 (.pointer (some ⟨g, 0, none⟩))) opPool 0 1 (From w.heap.size) ∧ Kept Nob w w'
set_option maxHeartbeats 1000000 in
theorem pool_new (w : World) (bd : Nat) (d : Dsk) (F : Nat → Prop) (hD : DiskAt w bd d F) (pages room : Nat) (h1 : 1 ≤ pages) (h2 : pages ≤ d.good.length / 8) (h3 : 1 ≤ room) (h4 : room ≤ 100) :
    Calls Tryz.prog 11 #[.pointer (some ⟨bd, 0, none⟩), .int .i64 pages, .int .i64 room] w fun e w' =>
      e = .returned (.tuple #[.pointer (some ⟨w.heap.size + 1, 0, none⟩), .nilIface]) ∧ PoolAt w' (w.heap.size + 1) bd w.heap.size (Pl.none pages room) (fun _ => False) ∧ Kept Nob w w' := by
  have HLen := Lib.hid (disk_len w bd d F hD)
  have hm := hD.wf.most
  clear hD
  have hmm := @run_makeMap Tryz.prog
  have t1 : decide ((d.good.length : Int) / 8 < (pages : Int)) = false := by simp; omega
  go_enter Tryz.func11, Tryz.ntmps11
  go_wp2_with (go_at_call 33; refine HLen.out.mono ?_; rintro e w' ⟨rfl, rfl⟩)
  go_ret2
  have k1 := Kept.alloc Nob w (.map #[] 0)
  have k2 := Kept.alloc Nob (w.alloc (.map #[] 0)) (.cells #[.pointer (some ⟨bd, 0, none⟩), .int .i64 pages, .int .i64 room, .int .i64 0, .int .i64 0, .map (some w.heap.size), .int .i64 0, .int .i64 0, .int .i64 0] 76)
  have hb := heap_alloc_new (w.alloc (.map #[] 0)) (.cells #[.pointer (some ⟨bd, 0, none⟩), .int .i64 pages, .int .i64 room, .int .i64 0, .int .i64 0, .map (some w.heap.size), .int .i64 0, .int .i64 0, .int .i64 0] 76)
  rw [show (w.alloc (.map #[] 0)).heap.size = w.heap.size + 1 from by simp] at hb
  exact ⟨rfl, ⟨hb, (MapAt.made w).kept k2 (fun f => f), (fun p hp => by cases hp), List.Pairwise.nil, fun f => f, fun f => f, by omega, fun _ f => f.elim⟩, k1.trans' k2⟩
def Pl.may (P : Pl) (h : Hd) : Bool := decide (h.pins = 0) && (!h.dirty || decide (h.lsn ≤ P.mark))
theorem pool_may (w : World) (b bd mb : Nat) (P : Pl) (S : Nat → Prop) (h : PoolAt w b bd mb P S) (k : Int) (x : Hd) (hx : (k, x) ∈ P.all) :
    Calls Tryz.prog 63 #[.pointer (some ⟨b, 0, none⟩), .pointer (some ⟨x.g, 0, none⟩)] w fun e w' => e = .returned (.bool (P.may x)) ∧ ∃ n, w' = w.drewN n := by
  have hb := (h.held _ hx).2
  have c3 : w.cell? ⟨b, 3, none⟩ = some (.int .i64 P.mark) := cell_at h.head 3 _ rfl
  have d1 : w.cell? ⟨x.g, 1, none⟩ = some (.int .i64 x.pins) := cell_at hb 1 _ rfl
  have d2 : w.cell? ⟨x.g, 2, none⟩ = some (.bool x.dirty) := cell_at hb 2 _ rfl
  have d3 : w.cell? ⟨x.g, 3, none⟩ = some (.int .i64 x.lsn) := cell_at hb 3 _ rfl
  unfold Pl.may
  clear h hx hb
  obtain ⟨g, pg, pins, dirty, lsn, used⟩ := x
  simp only at *
  by_cases hp : pins = 0
  · subst hp
    cases dirty
    · go_enter Tryz.func63, Tryz.ntmps63
      go_wp2
      go_ret
      exact ⟨rfl, 0, rfl⟩
    · go_enter Tryz.func63, Tryz.ntmps63
      go_wp2_with fail
      go_quiet (fail)
      go_wp2_with fail
      go_ret
      exact ⟨by simp, nq, rfl⟩
  · have hp' : 0 < pins := by omega
    go_enter Tryz.func63, Tryz.ntmps63
    go_wp2
    go_ret
    exact ⟨by simp [hp], 0, rfl⟩
theorem pread1_any (w : World) (n : Int) :
    Calls Tryz.prog 66 #[.int .u8 n] w fun e w' => e = .returned (.bool (n != 0)) ∧ w = w' := by
  go_enter Tryz.func66, Tryz.ntmps66
  go_wp2
  go_ret
  exact ⟨rfl, rfl⟩
def nzAt : List Int → Nat → Int
  | [], _ => -1
  | x :: l, k => if x = 0 then nzAt l (k + 1) else (k : Int)
theorem nzAt_drop (xs : List Int) (k j : Nat) (h : k < xs.length) : nzAt (xs.drop k) j = if xs[k] = 0 then nzAt (xs.drop (k + 1)) (j + 1) else (j : Int) := by
  rw [List.drop_eq_getElem_cons h]; rfl
theorem nzAt_none : ∀ (xs : List Int) (k : Nat), (∀ x ∈ xs, x = 0) → nzAt xs k = -1 := by
  intro xs
  induction xs with
  | nil => intro k _; rfl
  | cons r l ih =>
    intro k h
    rw [nzAt, if_pos (h r (by simp)), ih _ fun q hq => h q (by simp [hq])]
theorem nzAt_some : ∀ (xs : List Int) (k : Nat) (r : Int), r ∈ xs → r ≠ 0 → 0 ≤ nzAt xs k := by
  intro xs
  induction xs with
  | nil => intro k r h; cases h
  | cons q l ih =>
    intro k r h hr
    rw [nzAt]
    split
    · rename_i hq
      rcases List.mem_cons.1 h with rfl | h
      · exact absurd hq hr
      · exact ih _ r h hr
    · omega
set_option maxHeartbeats 1000000 in
set_option maxRecDepth 100000 in
theorem pindex_nz (w : World) (v : Value) (xs : List Int) (F : Nat → Prop) (hr : Reads w v (xs.map (Value.int .u8)) F) (hl : xs.length ≤ 1000000) :
    Calls Tryz.prog 99 #[v, .func (.func 66) #[] #[]] w fun e w' => e = .returned (.int .i64 (nzAt xs 0)) ∧ w = w' := by
  obtain ⟨a, c, rfl, -⟩ := hr.shape
  rw [List.length_map] at hr ⊢
  have HR := Lib.hid hr
  clear hr
  go_enter Tryz.func99, Tryz.ntmps99
  go_wp2
  go_loop [8] (fun i => ∃ k : Nat, k ≤ xs.length ∧ i = .int .i64 k ∧ Hid (nzAt xs 0 = nzAt (xs.drop k) k)) (fun i => xs.length - (intOf i).toNat)
  case atStart => exact ⟨0, Nat.zero_le _, rfl, rfl⟩
  case round =>
    obtain ⟨k, hk, rfl, hidx⟩ := hrel
    by_cases hlt : k < xs.length
    · obtain ⟨b, o, x, rfl, hx, hc, -⟩ := HR.out.cell (i := k) (by simpa using hlt)
      obtain rfl : x = .int .u8 xs[k] := by
        rw [List.getElem?_map, List.getElem?_eq_getElem hlt] at hx
        exact (Option.some.inj hx).symm
      have HD := Lib.hid (nzAt_drop xs k k hlt)
      clear hx
      generalize xs[k] = n at *
      have HA := Lib.hid (pread1_any w n)
      by_cases hz : n = 0
      · have hb : (n != 0) = false := by simpa using hz
        have HN : Hid (nzAt xs 0 = nzAt (xs.drop (k + 1)) (k + 1)) := by
          show _ = _
          rw [hidx.out, HD.out, if_pos hz]
        clear hb HA HD
        subst hz
        go_wp2_with (go_at_call 66; refine (pread1_any w 0).mono ?_; rintro e w' ⟨rfl, rfl⟩)
        go_round
        case rel => exact ⟨k + 1, by omega, by go_num, HN⟩
        case measure => simp [intOf]; omega
      · have hb : (n != 0) = true := by simpa using hz
        have HE : Hid (nzAt xs 0 = (k : Int)) := Lib.hid (by rw [hidx.out, HD.out, if_neg hz])
        go_wp2_with (go_at_call 66; refine HA.out.mono ?_; rintro e w' ⟨rfl, rfl⟩)
        go_ret
        exact ⟨ret_int HE.out.symm, rfl⟩
    · have HE : Hid (nzAt (xs.drop k) k = -1) := Lib.hid (by rw [List.drop_of_length_le (by omega), nzAt])
      go_wp2
      go_ret
      exact ⟨ret_int (hidx.out.trans HE.out).symm, rfl⟩
theorem pcontains_nz (w : World) (v : Value) (xs : List Int) (F : Nat → Prop) (hr : Reads w v (xs.map (Value.int .u8)) F) (hl : xs.length ≤ 1000000) :
    Calls Tryz.prog 65 #[v, .func (.func 66) #[] #[]] w fun e w' => e = .returned (.bool (decide (0 ≤ nzAt xs 0))) ∧ w = w' := by
  have H := Lib.hid (pindex_nz w v xs F hr hl)
  clear hr hl
  generalize nzAt xs 0 = q at *
  go_enter Tryz.func65, Tryz.ntmps65
  go_wp2_with (go_at_call 99; refine H.out.mono ?_; rintro e w' ⟨rfl, rfl⟩)
  go_ret
  exact ⟨rfl, rfl⟩
def PageHead (w : World) (pg : Nat) (kind id : Int) (lv : Value) : Prop := w.heap[pg]? = some (.cells #[.bool true, .int .i64 kind, .int .i64 id, lv] 94 (0, 0))
theorem page_new (w : World) (kind id : Int) (h1 : 0 ≤ kind) (h2 : kind ≤ 255) (h3 : 0 ≤ id) (h4 : id ≤ 4294967295) :
    Calls Tryz.prog 67 #[.int .i64 kind, .int .i64 id] w fun e w' => e = .returned (.tuple #[.pointer (some ⟨w.heap.size, 0, none⟩), .nilIface]) ∧ PageHead w' w.heap.size kind id (.slice none 0 0) ∧ Kept Nob w w' := by
  go_enter Tryz.func67, Tryz.ntmps67
  go_wp2
  go_ret2
  exact ⟨rfl, heap_alloc_new w _, Kept.alloc _ _ _⟩
theorem page_gone (w : World) (pg : Nat) (kind id : Int) (lv : Value) (h : PageHead w pg kind id lv) :
    Calls Tryz.prog 44 #[.pointer (some ⟨pg, 0, none⟩)] w fun e w' => e = .returned (.bool false) ∧ w = w' := by
  have c0 : w.cell? ⟨pg, 0, none⟩ = some (.bool true) := cell_at h 0 _ rfl
  clear h
  go_enter Tryz.func44, Tryz.ntmps44
  go_wp2
  go_ret
  exact ⟨rfl, rfl⟩
theorem page_id (w : World) (pg : Nat) (kind id : Int) (lv : Value) (h : PageHead w pg kind id lv) :
    Calls Tryz.prog 30 #[.pointer (some ⟨pg, 0, none⟩)] w fun e w' => e = .returned (.int .i64 id) ∧ w = w' := by
  have HG := Lib.hid (page_gone w pg kind id lv h)
  have c2 : w.cell? ⟨pg, 2, none⟩ = some (.int .i64 id) := cell_at h 2 _ rfl
  clear h
  go_enter Tryz.func30, Tryz.ntmps30
  go_wp2_with (go_at_call 44; refine HG.out.mono ?_; rintro e w' ⟨rfl, rfl⟩)
  go_ret
  exact ⟨rfl, rfl⟩
def PReadRel (w : World) (now : List (List Value)) (s j : Nat) (v : Value) (wr : World) : Prop :=
  ∃ b cap, v = .slice b (64 * j) cap ∧ Own wr 5 v (Wal.flat now s j) (From w.heap.size) ∧ Kept Nob w wr
theorem zeros_flat (now : List (List Value)) (s : Nat) : ∀ n, (∀ i, i < n → now.getD (s + i) [] = Dsk.zeroSector) → Wal.flat now s n = (List.replicate (64 * n) (0 : Int)).map (Value.int .u8) := by
  intro n
  induction n with
  | zero => intro _; rfl
  | succ n ih =>
    intro h
    rw [Wal.flat, ih (fun i hi => h i (by omega)), h n (by omega), Dsk.zeroSector, List.map_replicate, List.map_replicate, List.replicate_append_replicate, Nat.mul_succ]
theorem PoolAt.turn {w w' : World} {b bd mb : Nat} {P P' : Pl} {S : Nat → Prop} (h : PoolAt w b bd mb P S) (hk : Kept (Just b) w w') (ha : P'.all = P.all)
    (hb : w'.heap[b]? = some (.cells #[.pointer (some ⟨bd, 0, none⟩), .int .i64 P'.pages, .int .i64 P'.room, .int .i64 P'.mark, .int .i64 P'.clock, .map (some mb), .int .i64 P'.hits, .int .i64 P'.reads, .int .i64 P'.wrote] 76 (0, 0))) : PoolAt w' b bd mb P' S := by
  have hS : ∀ x, S x → ¬ Just b x := fun x hx hj => h.Sb (by rw [show x = b from hj] at hx; exact hx)
  refine ⟨hb, ?_, fun p hp => ?_, by rw [ha]; exact h.once, h.Sb, h.Sm, h.bm, h.under.mono hk.size⟩
  · have := h.map.kept hk (fun q => h.bm q.symm)
    unfold Pl.map at *
    rw [ha]; exact this
  · rw [ha] at hp
    exact ⟨(h.held p hp).1, (hk.block _ (h.under _ (h.held p hp).1) (hS _ (h.held p hp).1)).trans (h.held p hp).2⟩
def RetPage (w : World) (b bd mb : Nat) (P : Pl) (S : Nat → Prop) (k : Int) (en : Ending) (w' : World) : Prop :=
  ∃ pg, en = .returned (.tuple #[.pointer (some ⟨pg, 0, none⟩), .nilIface]) ∧ w.heap.size ≤ pg ∧ PageHead w' pg 0 k (.slice none 0 0) ∧ PoolAt w' b bd mb { P with reads := P.reads + 1 } S ∧ Kept (Just b) w w'
set_option maxRecDepth 100000 in
set_option maxHeartbeats 2000000 in
theorem pool_read_zero (w : World) (b bd mb : Nat) (P : Pl) (S : Nat → Prop) (h : PoolAt w b bd mb P S) (d : Dsk) (F : Nat → Prop) (hD : DiskAt w bd d F) (k : Nat) (hk : 8 * k + 8 ≤ d.good.length) (hz : ∀ i, i < 8 → d.now.getD (8 * k + i) [] = Dsk.zeroSector) (hr : P.reads ≤ 1000000000000) :
    Calls Tryz.prog 36 #[.pointer (some ⟨b, 0, none⟩), .int .i64 k] w (RetPage w b bd mb P S k) := by
  have hm := hD.wf.most
  have HP := Lib.hid h
  have HD := Lib.hid hD
  have HZ := Lib.hid hz
  have hkb : k ≤ 2000 := by omega
  have HR0 : Hid (PReadRel w d.now (8 * k) 0 (.slice none 0 0) w) := ⟨none, 0, rfl, Own.nil _ _ _, Kept.refl _ _⟩
  clear h hD hz
  go_enter Tryz.func36, Tryz.ntmps36
  go_wp2
  go_loopw [6, 12] (fun o i wr => ∃ j : Nat, j ≤ 8 ∧ i = .int .i64 j ∧ PReadRel w d.now (8 * k) j o wr) (fun _ i _ => 8 - (intOf i).toNat)
  case atStart => exact ⟨0, by omega, rfl, HR0.out⟩
  case round =>
    clear HR0
    obtain ⟨j, hj, rfl, ob, oc, rfl, ho, hkw⟩ := hrel
    have HO := Lib.hid ho
    have HK := Lib.hid hkw
    have hPr := HP.out.nob hkw
    have c0 : wr.cell? ⟨b, 0, none⟩ = some (.pointer (some ⟨bd, 0, none⟩)) := cell_at hPr.head 0 _ rfl
    have c7 : wr.cell? ⟨b, 7, none⟩ = some (.int .i64 P.reads) := cell_at hPr.head 7 _ rfl
    have f7 : wr.frozen? ⟨b, 7, none⟩ = false := frozen_at hPr.head 7
    have HPr := Lib.hid hPr
    clear ho hkw hPr
    by_cases hlt : j < 8
    · have hX := Dsk.Sectors.getD HD.out.wf.now (i := 8 * k + j) (by rw [HD.out.wf.len]; omega)
      have HRd := Lib.hid (show Calls Tryz.prog 64 #[.pointer (some ⟨bd, 0, none⟩), .int .i64 ((k : Int) * 8 + (j : Int))] wr (RetRead wr (d.now.getD (8 * k + j) [])) from by
        have := disk_read wr bd d F (HD.out.kept HK.out (fun _ _ f => f)) (8 * k + j) (by omega)
        rw [show ((8 * k + j : Nat) : Int) = (k : Int) * 8 + (j : Int) from by omega] at this
        exact this)
      have HX := Lib.hid hX
      clear hX c7 f7
      go_wp2_with fail
      refine HRd.out.mono ?_
      rintro e w2 ⟨b2, c2, rfl, ho2, hk2⟩
      rw [HX.out.1] at ho2 ⊢
      have HO1 := Lib.hid (HO.out.kept hk2 (fun _ _ f => f))
      have HO2 := Lib.hid ho2
      have HK2 := Lib.hid (HK.out.then hk2)
      have hfl : (Wal.flat d.now (8 * k) j).length = 64 * j := Wal.flat_length HD.out.wf.now j (by rw [HD.out.wf.len]; omega)
      have HFl := Lib.hid hfl
      clear ho2 hk2 HRd hfl c0
      go_wp2_with (at_builtin; refine wpList_append_pg rfl _ _ 50 rfl tBytes (.slice ob (64 * j) oc) (.slice b2 64 c2) (Wal.flat d.now (8 * k) j) (d.now.getD (8 * k + j) []) _ _ rfl rfl HO1.out HO2.out.reads (fun u hu => (HX.out.2 u hu).one) (by rw [HX.out.1, HFl.out]; omega) ?_; intro b4 c4 w4 ho4 hk4 _; rw [HX.out.1, HFl.out] at ho4 ⊢; have HO4 := Lib.hid ho4; have HK4 := Lib.hid hk4; clear ho4 hk4)
      have HN : Hid (PReadRel w d.now (8 * k) (j + 1) (.slice b4 (64 * j + 64) c4) w4) := by
        refine Lib.hid ⟨b4, c4, by rw [Nat.mul_succ], ?_, HK2.out.from (Nat.le_refl _) (HK4.out.mono fun x _ hx => HO.out.2 x hx)⟩
        have := HO4.out.mono (G := From w.heap.size) (fun x _ hx => by
          rcases hx with hx | hx
          · exact HO.out.2 x hx
          · have := HK2.out.size; show _ ≤ _; omega)
        rw [Wal.flat]
        exact this
      go_roundw
      case rel => exact ⟨j + 1, by omega, by go_num, HN.out⟩
      case measure => simp [intOf]; omega
    · have hj8 : j = 8 := by omega
      subst hj8
      have hxs := HO.out.reads
      rw [zeros_flat d.now (8 * k) 8 HZ.out] at hxs
      have hbel := HPr.out.lt
      have hC := fun W (q : Kept (Just b) wr W) => pcontains_nz W _ (List.replicate 512 0) _ (hxs.kept q (fun x hx hj => by have hx : w.heap.size ≤ x := hx; have hj : x = b := hj; have := HP.out.lt; omega)) (by simp)
      have hnone : decide (0 ≤ nzAt (List.replicate 512 0) 0) = false := by rw [nzAt_none _ _ (fun x hx => (List.mem_replicate.1 hx).2)]; rfl
      rw [hnone] at hC
      have HC := Lib.hid hC
      clear hxs hC hnone hlt hj
      go_wp2_with (first
        | (go_at_call 65; refine (HC.out _ (kept1 wr b 7 _)).mono ?_; rintro e w' ⟨rfl, rfl⟩)
        | (go_at_call 67; refine (page_new _ 0 k (by omega) (by omega) (by omega) (by omega)).mono ?_; rintro e w6 ⟨rfl, hp6, hk6⟩))
      go_ret2
      have k7 := kept1 wr b 7 (.int .i64 ((P.reads : Int) + 1))
      have hs := HK.out.size
      have kw : Kept (Just b) w (wr.setCell ⟨b, 7, none⟩ (.int .i64 ((P.reads : Int) + 1))) := HK.out.nob.trans' k7
      rw [set_size] at hp6
      have hnew := HPr.out.turn (P' := { P with reads := P.reads + 1 }) k7 rfl (heap_set wr b 7 _ _ (.int .i64 ((P.reads : Int) + 1)) HPr.out.head)
      exact ⟨_, rfl, hs, hp6, hnew.nob hk6, kw.then hk6⟩
def better (P : Pl) (acc : Option (Int × Hd)) (x : Int × Hd) : Option (Int × Hd) :=
  if P.may x.2 && (match acc with | none => true | some y => decide (x.2.used < y.2.used)) then some x else acc
def bestOf (P : Pl) (l : List (Int × Hd)) : Option (Int × Hd) := l.foldl (better P) none
theorem bestOf_take (P : Pl) (l : List (Int × Hd)) (j : Nat) (h : j < l.length) : bestOf P (l.take (j + 1)) = better P (bestOf P (l.take j)) l[j] := by
  rw [List.take_succ_eq_append_getElem h, bestOf, List.foldl_append]; rfl
theorem bestOf_mem (P : Pl) : ∀ (l : List (Int × Hd)) (x : Int × Hd), bestOf P l = some x → x ∈ l ∧ P.may x.2 = true := by
  have key : ∀ (l : List (Int × Hd)) (acc : Option (Int × Hd)) (x : Int × Hd), l.foldl (better P) acc = some x → acc = some x ∨ (x ∈ l ∧ P.may x.2 = true) := by
    intro l
    induction l with
    | nil => intro acc x h; exact .inl h
    | cons y r ih =>
      intro acc x h
      rw [List.foldl_cons] at h
      rcases ih _ _ h with h1 | h1
      · unfold better at h1
        generalize (match acc with | none => true | some z => decide (y.2.used < z.2.used)) = c at h1
        by_cases hc : (P.may y.2 && c) = true
        · rw [if_pos hc] at h1
          have e := Option.some.inj h1
          subst e
          simp only [Bool.and_eq_true] at hc
          exact .inr ⟨by simp, hc.1⟩
        · rw [if_neg hc] at h1
          exact .inl h1
      · exact .inr ⟨List.mem_cons_of_mem _ h1.1, h1.2⟩
  intro l x h
  rcases key l none x h with h1 | h1
  · cases h1
  · exact h1
theorem better_no {P : Pl} {acc : Option (Int × Hd)} {x : Int × Hd} (h : P.may x.2 = false) : better P acc x = acc := by unfold better; rw [h]; rfl
theorem better_none {P : Pl} {x : Int × Hd} (h : P.may x.2 = true) : better P none x = some x := by unfold better; rw [h]; rfl
theorem better_some {P : Pl} {x y : Int × Hd} (h : P.may x.2 = true) : better P (some y) x = if x.2.used < y.2.used then some x else some y := by
  unfold better; rw [h]
  by_cases hu : x.2.used < y.2.used
  · simp [hu]
  · simp [hu]
def keyOr : Option (Int × Hd) → Int
  | none => -1
  | some x => x.1
def Pl.Keyed (P : Pl) : Prop := ∀ p ∈ P.all, 0 ≤ p.1 ∧ p.1 ≤ 1000000
theorem PoolAt.find {w : World} {b bd mb : Nat} {P : Pl} {S : Nat → Prop} (h : PoolAt w b bd mb P S) {k : Int} {x : Hd} (hx : (k, x) ∈ P.all) : find P.map k = some x.g :=
  (find_mem h.map.2).2 (List.mem_map.2 ⟨(k, x), hx, rfl⟩)
theorem PoolAt.look {w : World} {b bd mb : Nat} {P : Pl} {S : Nat → Prop} (h : PoolAt w b bd mb P S) (hk : P.Keyed) {k : Int} {x : Hd} (hx : (k, x) ∈ P.all) :
    (Instr.lookup 74 (.map (some mb)) (.int .i64 k) false).run Tryz.prog w = .ok (.pointer (some ⟨x.g, 0, none⟩)) w := by
  have h1 := hk _ hx
  have := h.map.look Tryz.underlying74 (by kernel_rfl) k (by simp only [Lit.wf, Bool.and_eq_true, decide_eq_true_eq]; exact ⟨by show -9223372036854775808 ≤ k; have := h1.1; simp at this; omega, by show k ≤ 9223372036854775807; have := h1.2; simp at this; omega⟩)
  rw [h.find hx] at this
  exact this
theorem PoolAt.len {w : World} {b bd mb : Nat} {P : Pl} {S : Nat → Prop} (h : PoolAt w b bd mb P S) (ty : TypeId) :
    (Builtin.len_ #[74] ty #[.map (some mb)]).run Tryz.prog w = .ok (.int .i64 P.all.length) w := by
  have := h.map.len Tryz.underlying74 ty
  rwa [show P.map.length = P.all.length from by simp [Pl.map]] at this
theorem PoolAt.dropped {w w' : World} {b bd mb : Nat} {P : Pl} {S : Nat → Prop} (h : PoolAt w b bd mb P S) {k : Int} (hm : MapAt w' mb (del P.map k)) (hk : Kept (Just mb) w w') : PoolAt w' b bd mb { P with all := P.all.filter fun p => !(p.1 == k) } S := by
  have hS : ∀ x, S x → ¬ Just mb x := fun x hx hj => h.Sm (by rw [show x = mb from hj] at hx; exact hx)
  refine ⟨(hk.block b h.lt h.bm).trans h.head, ?_, fun p hp => ?_, h.once.filter _, h.Sb, h.Sm, h.bm, h.under.mono hk.size⟩
  · have e : del P.map k = Pl.map { P with all := P.all.filter fun p => !(p.1 == k) } := by
      simp only [del, Pl.map, List.filter_map]
      rfl
    rw [← e]; exact hm
  · have hp' := (List.mem_filter.1 hp).1
    exact ⟨(h.held p hp').1, (hk.block _ (h.under _ (h.held p hp').1) (hS _ (h.held p hp').1)).trans (h.held p hp').2⟩
theorem pool_evict_room (w : World) (b bd mb : Nat) (P : Pl) (S : Nat → Prop) (h : PoolAt w b bd mb P S) (hl : P.all.length < P.room) (_hr : P.room ≤ 100) :
    Calls Tryz.prog 35 #[.pointer (some ⟨b, 0, none⟩)] w fun e w' => e = .returned .nilIface ∧ ∃ n, w' = w.drewN n := by
  have c2 : w.cell? ⟨b, 2, none⟩ = some (.int .i64 P.room) := cell_at h.head 2 _ rfl
  have c5 : w.cell? ⟨b, 5, none⟩ = some (.map (some mb)) := cell_at h.head 5 _ rfl
  have hln := fun n => (h.nob (Kept.drewN Nob w n)).len 3
  have ht : (P.all.length : Int) < (P.room : Int) := by omega
  clear h
  go_enter Tryz.func35, Tryz.ntmps35
  go_wp2_with fail
  go_quiet (fail)
  go_wp2_with fail
  go_ret
  exact ⟨rfl, nq, rfl⟩
set_option maxRecDepth 100000 in
set_option maxHeartbeats 2000000 in
theorem pool_evict_full (w : World) (b bd mb : Nat) (P : Pl) (S : Nat → Prop) (h : PoolAt w b bd mb P S) (hk : P.Keyed) (hl : P.room ≤ P.all.length) (hr : P.all.length ≤ 100) (hu : ∀ p ∈ P.all, p.2.used ≤ 1000000000000) (hcl : ∀ x, bestOf P P.all = some x → x.2.dirty = false) :
    Calls Tryz.prog 35 #[.pointer (some ⟨b, 0, none⟩)] w fun e w' =>
      (bestOf P P.all = none → e = .returned (.iface 69 (.int .i64 8)) ∧ Kept Nob w w') ∧
      (∀ x, bestOf P P.all = some x → e = .returned .nilIface ∧ PoolAt w' b bd mb { P with all := P.all.filter fun p => !(p.1 == x.1) } S ∧ Kept (Just mb) w w') := by
  have c2 : w.cell? ⟨b, 2, none⟩ = some (.int .i64 P.room) := cell_at h.head 2 _ rfl
  have c5 : w.cell? ⟨b, 5, none⟩ = some (.map (some mb)) := cell_at h.head 5 _ rfl
  have hln := fun n => (h.nob (Kept.drewN Nob w n)).len 3
  have ht : ¬ (P.all.length : Int) < (P.room : Int) := by omega
  have HP := Lib.hid h
  have HH := Lib.hid (fun n => pool_held (w.drewN n) b bd mb P S (h.nob (Kept.drewN Nob w n)) (by omega))
  have HKy := Lib.hid hk
  have HU := Lib.hid hu
  have HCl := Lib.hid hcl
  clear h hk hu hcl
  go_enter Tryz.func35, Tryz.ntmps35
  go_wp2_with fail
  go_quiet (fail)
  clear hln
  go_wp2_with fail
  refine (HH.out nq).mono ?_
  rintro e w2 ⟨a2, k2, rfl, ho2, hk2⟩
  have HO2 := Lib.hid ho2.reads
  have HK2 := Lib.hid ((Kept.drewN Nob w nq).trans' hk2)
  clear ho2 hk2 HH c2 c5
  go_wp2_with fail
  have HR0 : Hid (Kept Nob w2 w2) := Kept.refl _ _
  go_loopw [3, 21] (fun bv i wr => ∃ j : Nat, j ≤ P.all.length ∧ i = .int .i64 j ∧ bv = .int .i64 (keyOr (bestOf P (P.all.take j))) ∧ Kept Nob w2 wr) (fun _ i _ => P.all.length - (intOf i).toNat)
  case atStart => exact ⟨0, Nat.zero_le _, rfl, rfl, HR0.out⟩
  case round =>
    clear HR0
    obtain ⟨j, hj, rfl, rfl, hkw⟩ := hrel
    have HK := Lib.hid hkw
    have hPr := HP.out.nob (HK2.out.then hkw)
    have c5 : wr.cell? ⟨b, 5, none⟩ = some (.map (some mb)) := cell_at hPr.head 5 _ rfl
    have HPr := Lib.hid hPr
    clear hPr hkw
    by_cases hlt : j < P.all.length
    · have hmem := List.getElem_mem hlt
      have hbt := bestOf_take P P.all j hlt
      obtain ⟨gb, go, xv, rfl, hx, hc, -⟩ := (HO2.out.kept HK.out (fun _ _ f => f)).cell (i := j) (by simpa [Pl.keys] using hlt)
      obtain rfl : xv = .int .i64 P.all[j].1 := by
        rw [Pl.keys, List.getElem?_map, List.getElem?_eq_getElem hlt] at hx
        exact (Option.some.inj hx).symm
      clear hx
      have HBt := Lib.hid hbt
      obtain ⟨key, x, he⟩ : ∃ key x, P.all[j] = (key, x) := ⟨_, _, rfl⟩
      rw [he] at hmem HBt hc
      clear hbt he
      have hlk := HPr.out.look HKy.out hmem
      have hb := (HPr.out.held _ hmem).2
      have d4 : wr.cell? ⟨x.g, 4, none⟩ = some (.int .i64 x.used) := cell_at hb 4 _ rfl
      have HMy := Lib.hid (fun n => pool_may (wr.drewN n) b bd mb P S (HPr.out.nob (Kept.drewN Nob wr n)) key x hmem)
      clear hb
      go_upto_region 8 with fail
      cases hm : P.may x
      · rw [hm] at HMy
        have HB2 : Hid (Value.int .i64 (keyOr (bestOf P (P.all.take j))) = .int .i64 (keyOr (bestOf P (P.all.take (j + 1))))) := by
          refine Lib.hid ?_
          rw [HBt.out, better_no hm]
        clear hm
        generalize keyOr (bestOf P (P.all.take j)) = q at *
        go_quiet ((go_at_call 63; exact Calls.quiet_of (HMy.out _)))
        go_wp2_with fail
        have HN := Lib.hid (HK.out.then (Kept.drewN Nob wr nq))
        go_roundw
        case rel => exact ⟨j + 1, by omega, by go_num, HB2.out, HN.out⟩
        case measure => simp [intOf]; omega
      · rw [hm] at HMy
        cases hacc : bestOf P (P.all.take j) with
        | none =>
          have HB2 : Hid (Value.int .i64 key = .int .i64 (keyOr (bestOf P (P.all.take (j + 1))))) := by
            refine Lib.hid ?_
            rw [HBt.out, hacc, better_none hm]; rfl
          rw [show keyOr none = -1 from rfl]
          clear hm hacc
          go_quiet ((go_at_call 63; exact Calls.quiet_of (HMy.out _)))
          go_wp2_with fail
          have HN := Lib.hid (HK.out.then (Kept.drewN Nob wr nq))
          go_roundw
          case rel => exact ⟨j + 1, by omega, by go_num, HB2.out, HN.out⟩
          case measure => simp [intOf]; omega
        | some y =>
          obtain ⟨yk, y⟩ := y
          have hym : (yk, y) ∈ P.all := List.mem_of_mem_take (bestOf_mem P _ _ hacc).1
          have hly := fun n => (HPr.out.nob (Kept.drewN Nob wr n)).look HKy.out hym
          have hyb := (HPr.out.held _ hym).2
          have e4 : wr.cell? ⟨y.g, 4, none⟩ = some (.int .i64 y.used) := cell_at hyb 4 _ rfl
          have hy0 := (HKy.out _ hym).1
          have hn0 : decide (yk < 0) = false := by simpa using hy0
          rw [show keyOr (some (yk, y)) = yk from rfl]
          clear hyb hy0 hym
          by_cases hus : x.used < y.used
          · have HB2 : Hid (Value.int .i64 key = .int .i64 (keyOr (bestOf P (P.all.take (j + 1))))) := by
              refine Lib.hid ?_
              rw [HBt.out, hacc, better_some hm, if_pos hus]; rfl
            have hus' : decide ((x.used : Int) < (y.used : Int)) = true := by simpa using hus
            clear hm hacc
            go_quiet ((go_at_call 63; exact Calls.quiet_of (HMy.out _)))
            go_wp2_with fail
            have HN := Lib.hid (HK.out.then (Kept.drewN Nob wr nq))
            go_roundw
            case rel => exact ⟨j + 1, by omega, by go_num, HB2.out, HN.out⟩
            case measure => simp [intOf]; omega
          · have HB2 : Hid (Value.int .i64 yk = .int .i64 (keyOr (bestOf P (P.all.take (j + 1))))) := by
              refine Lib.hid ?_
              rw [HBt.out, hacc, better_some hm, if_neg hus]; rfl
            have hus' : decide ((x.used : Int) < (y.used : Int)) = false := by simpa using hus
            clear hm hacc
            go_quiet ((go_at_call 63; exact Calls.quiet_of (HMy.out _)))
            go_wp2_with fail
            have HN := Lib.hid (HK.out.then (Kept.drewN Nob wr nq))
            go_roundw
            case rel => exact ⟨j + 1, by omega, by go_num, HB2.out, HN.out⟩
            case measure => simp [intOf]; omega
    · have hjl : j = P.all.length := by omega
      subst hjl
      rw [List.take_of_length_le (Nat.le_refl _)]
      cases hb : bestOf P P.all with
      | none =>
        rw [show keyOr none = -1 from rfl]
        go_wp2_with fail
        go_ret
        exact ⟨fun _ => ⟨rfl, HK2.out.then HK.out⟩, fun x h => by rw [hb] at h; cases h⟩
      | some x =>
        obtain ⟨xk, x⟩ := x
        have hxm := (bestOf_mem P _ _ hb).1
        have hxk := HKy.out _ hxm
        have hlk := HPr.out.look HKy.out hxm
        have d2 : wr.cell? ⟨x.g, 2, none⟩ = some (.bool x.dirty) := cell_at (HPr.out.held _ hxm).2 2 _ rfl
        rw [HCl.out _ hb] at d2
        have hn0 : ¬ xk < 0 := by have := hxk.1; simpa using this
        obtain ⟨w', hdel, hmap, hkm⟩ := HPr.out.map.drop Tryz.underlying74 xk (by simp only [Lit.wf, Bool.and_eq_true, decide_eq_true_eq]; exact ⟨by show -9223372036854775808 ≤ xk; omega, by show xk ≤ 9223372036854775807; have := hxk.2; simp at this; omega⟩) 0
        rw [show keyOr (some (xk, x)) = xk from rfl]
        have HM := Lib.hid hmap
        have HKm := Lib.hid hkm
        clear hmap hkm hxk
        go_wp2_with fail
        go_ret
        exact ⟨rfl, HPr.out.dropped HM.out HKm.out, (HK2.out.then HK.out).nob.trans' HKm.out⟩
def Pl.set (P : Pl) (k : Int) (x : Hd) : Pl := { P with all := P.all.map fun p => if p.1 = k then (k, x) else p }
theorem pairwise_sym {α : Type} {R : α → α → Prop} (hs : ∀ a b, R a b → R b a) : ∀ {l : List α}, l.Pairwise R → ∀ a ∈ l, ∀ b ∈ l, a ≠ b → R a b := by
  intro l
  induction l with
  | nil => intro _ a h; cases h
  | cons y r ih =>
    intro h a ha b hb hne
    rw [List.pairwise_cons] at h
    rcases List.mem_cons.1 ha with ha1 | ha1
    · rcases List.mem_cons.1 hb with hb1 | hb1
      · exact absurd (ha1.trans hb1.symm) hne
      · exact ha1 ▸ h.1 b hb1
    · rcases List.mem_cons.1 hb with hb1 | hb1
      · exact hs _ _ (hb1 ▸ h.1 a ha1)
      · exact ih h.2 a ha1 b hb1 hne
theorem PoolAt.one {w : World} {b bd mb : Nat} {P : Pl} {S : Nat → Prop} (h : PoolAt w b bd mb P S) {k : Int} {x y : Hd} (hx : (k, x) ∈ P.all) (hy : (k, y) ∈ P.all) : x = y := by
  have h1 := h.find hx
  have h2 := h.find hy
  rw [h1] at h2
  have hg : x.g = y.g := Option.some.inj h2
  by_cases hxy : x = y
  · exact hxy
  · exact absurd hg (pairwise_sym (fun _ _ q e => q e.symm) h.once _ hx _ hy (fun e => hxy (Prod.mk.inj e).2))
theorem PoolAt.inner {w w' : World} {b bd mb : Nat} {P : Pl} {S : Nat → Prop} (h : PoolAt w b bd mb P S) {k : Int} {x : Hd} (hx : (k, x) ∈ P.all) (x' : Hd) (hg : x'.g = x.g) (hk : Kept (Just x.g) w w')
    (hb : w'.heap[x.g]? = some (.cells #[.pointer (some ⟨x'.pg, 0, none⟩), .int .i64 x'.pins, .bool x'.dirty, .int .i64 x'.lsn, .int .i64 x'.used] 80 (0, 0))) : PoolAt w' b bd mb (P.set k x') S := by
  have hSx := (h.held _ hx).1
  have hnb : ¬ Just x.g b := fun e => h.Sb (by rw [show b = x.g from e]; exact hSx)
  have hnm : ¬ Just x.g mb := fun e => h.Sm (by rw [show mb = x.g from e]; exact hSx)
  have hmap : (P.set k x').map = P.map := by
    simp only [Pl.map, Pl.set, List.map_map]
    refine List.map_congr_left fun p hp => ?_
    show ((if p.1 = k then (k, x') else p).1, (if p.1 = k then (k, x') else p).2.g) = _
    by_cases hpk : p.1 = k
    · obtain ⟨pk, y⟩ := p
      simp only at hpk
      subst hpk
      rw [if_pos rfl, h.one hp hx]
      exact congrArg (Prod.mk _) hg
    · rw [if_neg hpk]
  refine ⟨(hk.block b h.lt hnb).trans h.head, by rw [hmap]; exact h.map.kept hk hnm, fun p hp => ?_, ?_, h.Sb, h.Sm, h.bm, h.under.mono hk.size⟩
  · simp only [Pl.set, List.mem_map] at hp
    obtain ⟨q, hq, rfl⟩ := hp
    by_cases hqk : q.1 = k
    · rw [if_pos hqk]
      show S x'.g ∧ w'.heap[x'.g]? = _
      rw [hg]
      exact ⟨hSx, hb⟩
    · rw [if_neg hqk]
      have hne : ¬ Just x.g q.2.g := fun e => pairwise_sym (fun _ _ q e => q e.symm) h.once _ hq _ hx (fun e => hqk (by rw [e])) e
      exact ⟨(h.held _ hq).1, (hk.block _ (h.under _ (h.held _ hq).1) hne).trans (h.held _ hq).2⟩
  · rw [Pl.set]
    refine List.pairwise_map.2 (h.once.imp_of_mem fun {p q} hp hq hpq => ?_)
    have e : ∀ r ∈ P.all, (if r.1 = k then (k, x') else r).2.g = r.2.g := by
      intro r hr
      by_cases hrk : r.1 = k
      · obtain ⟨rk, y⟩ := r
        simp only at hrk
        subst hrk
        rw [if_pos rfl, h.one hr hx]
        exact hg
      · rw [if_neg hrk]
    rw [e p hp, e q hq]
    exact hpq
def Pl.hit (P : Pl) (k : Int) (x : Hd) : Pl := { P with hits := P.hits + 1, clock := P.clock + 1 }.set k { x with pins := x.pins + 1, used := P.clock + 1 }
def PoolF (b mb : Nat) (S : Nat → Prop) : Nat → Prop := fun x => x = b ∨ x = mb ∨ S x
theorem PoolAt.look_ok {w : World} {b bd mb : Nat} {P : Pl} {S : Nat → Prop} (h : PoolAt w b bd mb P S) (k : Int) (h0 : -1000000 ≤ k) (h1 : k ≤ 1000000) :
    (Instr.lookup 74 (.map (some mb)) (.int .i64 k) true).run Tryz.prog w = .ok (.tuple #[ptrOf (Proofs.YthppgchmamonnaaGreatDoor.find P.map k), .bool (Proofs.YthppgchmamonnaaGreatDoor.find P.map k).isSome]) w :=
  h.map.look_ok Tryz.underlying74 (by kernel_rfl) k (by simp only [Lit.wf, Bool.and_eq_true, decide_eq_true_eq]; exact ⟨by show -9223372036854775808 ≤ k; omega, by show k ≤ 9223372036854775807; omega⟩)
set_option maxRecDepth 100000 in
set_option maxHeartbeats 1000000 in
theorem pool_pin_hit (w : World) (b bd mb : Nat) (P : Pl) (S : Nat → Prop) (h : PoolAt w b bd mb P S) (k : Nat) (x : Hd) (hx : ((k : Int), x) ∈ P.all) (hkp : k < P.pages) (hpp : P.pages ≤ 100000)
    (hc : P.clock ≤ 1000000000000) (hh : P.hits ≤ 1000000000000) (hp : x.pins ≤ 1000000000000) :
    Calls Tryz.prog 12 #[.pointer (some ⟨b, 0, none⟩), .int .i64 k] w fun e w' =>
      e = .returned (.tuple #[.pointer (some ⟨x.pg, 0, none⟩), .nilIface]) ∧ PoolAt w' b bd mb (P.hit k x) S ∧ Kept (PoolF b mb S) w w' := by
  have HG := Lib.hid (pool_gone w b bd mb P S h)
  have c1 : w.cell? ⟨b, 1, none⟩ = some (.int .i64 P.pages) := cell_at h.head 1 _ rfl
  have c5 : w.cell? ⟨b, 5, none⟩ = some (.map (some mb)) := cell_at h.head 5 _ rfl
  have c6 : w.cell? ⟨b, 6, none⟩ = some (.int .i64 P.hits) := cell_at h.head 6 _ rfl
  have f6 := frozen_at h.head 6
  have c4 : w.cell? ⟨b, 4, none⟩ = some (.int .i64 P.clock) := cell_at h.head 4 _ rfl
  have f4 := frozen_at h.head 4
  have hlk := h.look_ok (k : Int) (by omega) (by omega)
  rw [h.find hx] at hlk
  have hb := (h.held _ hx).2
  have d0 : w.cell? ⟨x.g, 0, none⟩ = some (.pointer (some ⟨x.pg, 0, none⟩)) := cell_at hb 0 _ rfl
  have d1 : w.cell? ⟨x.g, 1, none⟩ = some (.int .i64 x.pins) := cell_at hb 1 _ rfl
  have d4 : w.cell? ⟨x.g, 4, none⟩ = some (.int .i64 x.used) := cell_at hb 4 _ rfl
  have e1 := frozen_at hb 1
  have e4 := frozen_at hb 4
  have hne : b ≠ x.g := fun e => h.Sb (by rw [e]; exact (h.held _ hx).1)
  have HP := Lib.hid h
  have HX := Lib.hid hx
  have t0 : ¬ (k : Int) < 0 := by omega
  have t1 : ¬ (P.pages : Int) ≤ (k : Int) := by omega
  simp only [ptrOf, Option.isSome] at hlk
  clear h hx hb
  go_enter Tryz.func12, Tryz.ntmps12
  go_wp2_with (go_at_call 34; refine HG.out.mono ?_; rintro e w' ⟨rfl, rfl⟩)
  go_ret2
  have hSx := (HP.out.held _ HX.out).1
  have k1 := kept2 w b 6 4 (.int .i64 ((P.hits : Int) + 1)) (.int .i64 ((P.clock : Int) + 1))
  have h1 := HP.out.turn (P' := { P with hits := P.hits + 1, clock := P.clock + 1 }) k1 rfl (heap_set _ b 4 _ _ _ (heap_set w b 6 _ _ _ HP.out.head))
  have k2 := kept2 ((w.setCell ⟨b, 6, none⟩ (.int .i64 ((P.hits : Int) + 1))).setCell ⟨b, 4, none⟩ (.int .i64 ((P.clock : Int) + 1))) x.g 1 4 (.int .i64 ((x.pins : Int) + 1)) (.int .i64 ((P.clock : Int) + 1))
  have h2 := h1.inner (k := k) HX.out { x with pins := x.pins + 1, used := P.clock + 1 } rfl k2 (heap_set _ x.g 4 _ _ _ (heap_set _ x.g 1 _ _ _ (h1.held _ HX.out).2))
  exact ⟨rfl, h2, (k1.mono fun _ _ q => .inl q).trans' (k2.mono fun y _ q => .inr (.inr (by rw [show y = x.g from q]; exact hSx)))⟩
def RetNoPage (w : World) (k : Int) (c : Int) (F : Nat → Prop) (en : Ending) (w' : World) : Prop :=
  ∃ g, en = .returned (.tuple #[.pointer none, .iface 81 (.pointer (some ⟨g, 0, none⟩))]) ∧ FaultAt w' (.iface 81 (.pointer (some ⟨g, 0, none⟩))) opPool k c (From w.heap.size) ∧ Kept F w w'
set_option maxRecDepth 100000 in
theorem pool_pin_range (w : World) (b bd mb : Nat) (P : Pl) (S : Nat → Prop) (h : PoolAt w b bd mb P S) (k : Int) (hk : k < 0 ∨ (P.pages : Int) ≤ k) :
    Calls Tryz.prog 12 #[.pointer (some ⟨b, 0, none⟩), .int .i64 k] w (RetNoPage w k 2 Nob) := by
  have HC := fun w => Lib.hid (fault_new w opPool k 2)
  unfold opPool at HC
  have HG := Lib.hid (pool_gone w b bd mb P S h)
  have c1 : w.cell? ⟨b, 1, none⟩ = some (.int .i64 P.pages) := cell_at h.head 1 _ rfl
  clear h
  by_cases h0 : k < 0
  · have t0 : decide (k < 0) = true := by simpa using h0
    clear h0
    go_enter Tryz.func12, Tryz.ntmps12
    go_wp2_with (first
      | (go_at_call 34; refine HG.out.mono ?_; rintro e w' ⟨rfl, rfl⟩)
      | (go_at_call 31; refine (HC _).out.mono ?_; rintro e w2 ⟨g1, rfl, ho1, hk1⟩))
    go_ret2
    exact ⟨g1, rfl, ho1, hk1⟩
  · have h1 : (P.pages : Int) ≤ k := by omega
    go_enter Tryz.func12, Tryz.ntmps12
    go_wp2_with (first
      | (go_at_call 34; refine HG.out.mono ?_; rintro e w' ⟨rfl, rfl⟩)
      | (go_at_call 31; refine (HC _).out.mono ?_; rintro e w2 ⟨g1, rfl, ho1, hk1⟩))
    go_ret2
    exact ⟨g1, rfl, ho1, hk1⟩
set_option maxRecDepth 100000 in
theorem pool_pin_full (w : World) (b bd mb : Nat) (P : Pl) (S : Nat → Prop) (h : PoolAt w b bd mb P S) (k : Nat) (hno : find P.map k = none) (hkp : k < P.pages) (hpp : P.pages ≤ 100000) (F : Nat → Prop) (c : Int)
    (HE : Hid (Calls Tryz.prog 35 #[.pointer (some ⟨b, 0, none⟩)] w fun e w1 => e = .returned (.iface 69 (.int .i64 c)) ∧ Kept F w w1)) :
    Calls Tryz.prog 12 #[.pointer (some ⟨b, 0, none⟩), .int .i64 k] w (RetNoPage w k c F) := by
  have HC := fun w => Lib.hid (fault_new w opPool k c)
  unfold opPool at HC
  have HG := Lib.hid (pool_gone w b bd mb P S h)
  have c1 : w.cell? ⟨b, 1, none⟩ = some (.int .i64 P.pages) := cell_at h.head 1 _ rfl
  have c5 : w.cell? ⟨b, 5, none⟩ = some (.map (some mb)) := cell_at h.head 5 _ rfl
  have hlk := h.look_ok (k : Int) (by omega) (by omega)
  rw [hno] at hlk
  simp only [ptrOf, Option.isSome] at hlk
  have t0 : ¬ (k : Int) < 0 := by omega
  have t1 : ¬ (P.pages : Int) ≤ (k : Int) := by omega
  clear h hno
  go_enter Tryz.func12, Tryz.ntmps12
  go_wp2_with (first
    | (go_at_call 34; refine HG.out.mono ?_; rintro e w' ⟨rfl, rfl⟩)
    | (go_at_call 35; refine HE.out.mono ?_; rintro e w2 ⟨rfl, hk2⟩; have HK2 := Lib.hid hk2; clear hk2)
    | (go_at_call 31; refine (HC _).out.mono ?_; rintro e w3 ⟨g1, rfl, ho1, hk1⟩))
  go_ret2
  exact ⟨g1, rfl, ho1.mono fun x _ hx => Nat.le_trans HK2.out.size hx, HK2.out.then hk1⟩
def insH (k : Int) (x : Hd) : List (Int × Hd) → List (Int × Hd)
  | [] => [(k, x)]
  | y :: r => if k < y.1 then (k, x) :: y :: r else y :: insH k x r
theorem insH_map (k : Int) (x : Hd) : ∀ l : List (Int × Hd), (insH k x l).map (fun p => (p.1, p.2.g)) = ins k x.g (l.map fun p => (p.1, p.2.g)) := by
  intro l
  induction l with
  | nil => rfl
  | cons y r ih =>
    simp only [insH, ins, List.map_cons]
    by_cases h : k < y.1
    · rw [if_pos h, if_pos h]; rfl
    · rw [if_neg h, if_neg h, List.map_cons, ih]
theorem insH_mem {k : Int} {x : Hd} {p : Int × Hd} : ∀ {l : List (Int × Hd)}, p ∈ insH k x l ↔ p = (k, x) ∨ p ∈ l := by
  intro l
  induction l with
  | nil => simp [insH]
  | cons y r ih =>
    simp only [insH]
    by_cases h : k < y.1
    · rw [if_pos h]; simp
    · rw [if_neg h, List.mem_cons, ih, List.mem_cons]
      constructor
      · rintro (h | h | h)
        · exact .inr (.inl h)
        · exact .inl h
        · exact .inr (.inr h)
      · rintro (h | h | h)
        · exact .inr (.inl h)
        · exact .inl h
        · exact .inr (.inr h)
theorem insH_length (k : Int) (x : Hd) : ∀ l : List (Int × Hd), (insH k x l).length = l.length + 1 := by
  intro l
  induction l with
  | nil => rfl
  | cons y r ih =>
    rw [insH]
    split
    · rfl
    · rw [List.length_cons, ih, List.length_cons]
theorem insH_once {k : Int} {x : Hd} : ∀ {l : List (Int × Hd)}, (l.Pairwise fun p q => p.2.g ≠ q.2.g) → (∀ p ∈ l, p.2.g ≠ x.g) → (insH k x l).Pairwise fun p q => p.2.g ≠ q.2.g := by
  intro l
  induction l with
  | nil => intro _ _; exact List.pairwise_singleton _ _
  | cons y r ih =>
    intro h hn
    rw [insH]
    split
    · exact List.pairwise_cons.2 ⟨fun p hp => (hn p hp).symm, h⟩
    · rw [List.pairwise_cons] at h
      refine List.pairwise_cons.2 ⟨fun p hp => ?_, ih h.2 fun p hp => hn p (List.mem_cons_of_mem _ hp)⟩
      rcases insH_mem.1 hp with rfl | hp
      · exact hn y (by simp)
      · exact h.1 p hp
def Pl.add (P : Pl) (k : Int) (x : Hd) : Pl := { P with clock := P.clock + 1, all := insH k x P.all }
set_option maxHeartbeats 1000000 in
set_option maxRecDepth 100000 in
theorem pool_pin_new (w : World) (b bd mb : Nat) (P : Pl) (S : Nat → Prop) (h : PoolAt w b bd mb P S) (k : Nat) (hno : find P.map k = none) (hkp : k < P.pages) (hpp : P.pages ≤ 100000)
    (Q : Pl → (Nat → Prop) → Nat → World → Prop)
    (HE : Hid (Calls Tryz.prog 35 #[.pointer (some ⟨b, 0, none⟩)] w fun e w1 => e = .returned .nilIface ∧
      Calls Tryz.prog 36 #[.pointer (some ⟨b, 0, none⟩), .int .i64 k] w1 fun e w2 => ∃ P2 S2 pg, e = .returned (.tuple #[.pointer (some ⟨pg, 0, none⟩), .nilIface]) ∧ PoolAt w2 b bd mb P2 S2 ∧ Q P2 S2 pg w2 ∧ P2.clock ≤ 1000000000000 ∧ P2.all.length ≤ 100000 ∧ find P2.map k = none)) :
    Calls Tryz.prog 12 #[.pointer (some ⟨b, 0, none⟩), .int .i64 k] w fun e w' => ∃ P2 S2 pg w2 g, Q P2 S2 pg w2 ∧
      e = .returned (.tuple #[.pointer (some ⟨pg, 0, none⟩), .nilIface]) ∧ PoolAt w' b bd mb (P2.add k ⟨g, pg, 1, false, 0, P2.clock + 1⟩) (fun x => S2 x ∨ x = g) ∧ w2.heap.size = g ∧ g < w'.heap.size ∧ Kept (fun x => x = b ∨ x = mb) w2 w' := by
  have HG := Lib.hid (pool_gone w b bd mb P S h)
  have c1 : w.cell? ⟨b, 1, none⟩ = some (.int .i64 P.pages) := cell_at h.head 1 _ rfl
  have c5 : w.cell? ⟨b, 5, none⟩ = some (.map (some mb)) := cell_at h.head 5 _ rfl
  have hlk := h.look_ok (k : Int) (by omega) (by omega)
  rw [hno] at hlk
  simp only [ptrOf, Option.isSome] at hlk
  have t0 : ¬ (k : Int) < 0 := by omega
  have t1 : ¬ (P.pages : Int) ≤ (k : Int) := by omega
  clear h hno
  go_enter Tryz.func12, Tryz.ntmps12
  go_upto_region 12 with (first
    | (go_at_call 34; refine HG.out.mono ?_; rintro e w' ⟨rfl, rfl⟩)
    | (go_at_call 35; refine HE.out.mono ?_; rintro e w1 ⟨rfl, hrd⟩; have HRd := Lib.hid hrd; clear hrd)
    | (go_at_call 36; refine HRd.out.mono ?_; rintro e w2 ⟨P2, S2, pg, rfl, hp2, hq, hcl, hln, hno2⟩; have HQ := Lib.hid hq; have HP := Lib.hid hp2; have HN := Lib.hid hno2; clear hp2 hq hno2))
  clear c1 c5 hlk t0 t1
  have k1 : Kept Nob w2 (w2.alloc (.cells #[.pointer (some ⟨pg, 0, none⟩), .int .i64 0, .bool false, .int .i64 0, .int .i64 0] 80)) := Kept.alloc _ _ _
  have hb1 := heap_alloc_new w2 (.cells #[.pointer (some ⟨pg, 0, none⟩), .int .i64 0, .bool false, .int .i64 0, .int .i64 0] 80)
  have hp1 := HP.out.nob k1
  obtain ⟨w5, hup, hm5, hk5⟩ := hp1.map.store Tryz.underlying74 (by rw [show P2.map.length = P2.all.length from by simp [Pl.map]]; show _ < maxLen; unfold maxLen; omega) k (by simp only [Lit.wf, Bool.and_eq_true, decide_eq_true_eq]; exact ⟨by show -9223372036854775808 ≤ (k : Int); omega, by show (k : Int) ≤ 9223372036854775807; omega⟩) w2.heap.size
  have c5 : (w2.alloc (.cells #[.pointer (some ⟨pg, 0, none⟩), .int .i64 0, .bool false, .int .i64 0, .int .i64 0] 80)).cell? ⟨b, 5, none⟩ = some (.map (some mb)) := cell_at hp1.head 5 _ rfl
  have hb5 := (hk5.block b hp1.lt hp1.bm).trans hp1.head
  have hgm : ¬ Just mb w2.heap.size := fun e => by have := HP.out.map.lt; have e : w2.heap.size = mb := e; omega
  have hbg : b ≠ w2.heap.size := by have := HP.out.lt; omega
  have hg5 := (hk5.block w2.heap.size (by simp) hgm).trans hb1
  have c4 : w5.cell? ⟨b, 4, none⟩ = some (.int .i64 P2.clock) := cell_at hb5 4 _ rfl
  have f4 := frozen_at hb5 4
  have d0 : w5.cell? ⟨w2.heap.size, 0, none⟩ = some (.pointer (some ⟨pg, 0, none⟩)) := cell_at hg5 0 _ rfl
  have d1 : w5.cell? ⟨w2.heap.size, 1, none⟩ = some (.int .i64 0) := cell_at hg5 1 _ rfl
  have d4 : w5.cell? ⟨w2.heap.size, 4, none⟩ = some (.int .i64 0) := cell_at hg5 4 _ rfl
  have e1 := frozen_at hg5 1
  have e4 := frozen_at hg5 4
  have HP1 := Lib.hid hp1
  have HM5 := Lib.hid hm5
  have HK5 := Lib.hid hk5
  have HB5 := Lib.hid hb5
  have HG5 := Lib.hid hg5
  clear hp1 hm5 hk5 hb5 hg5 hb1 hgm
  go_wp2_with fail
  go_ret2
  have k6 := kept1 w5 b 4 (.int .i64 ((P2.clock : Int) + 1))
  have k7 := kept2 (w5.setCell ⟨b, 4, none⟩ (.int .i64 ((P2.clock : Int) + 1))) w2.heap.size 1 4 (.int .i64 1) (.int .i64 ((P2.clock : Int) + 1))
  have hs5 : w2.heap.size < w5.heap.size := by have := HK5.out.size; simp at this; omega
  have kp : Kept (fun x => x = b ∨ x = mb) w2 _ := ((k1.nob.trans' (HK5.out.mono fun x _ q => .inr q)).trans' (k6.mono fun x _ q => .inl q)).trans k7 (fun x hx q => absurd (show x = w2.heap.size from q) (by omega))
  have hgs : w2.heap.size < (((w5.setCell ⟨b, 4, none⟩ (.int .i64 ((P2.clock : Int) + 1))).setCell ⟨w2.heap.size, 1, none⟩ (.int .i64 1)).setCell ⟨w2.heap.size, 4, none⟩ (.int .i64 ((P2.clock : Int) + 1))).heap.size := by
    simp only [set_size]; exact hs5
  have hmap : (P2.add k ⟨w2.heap.size, pg, 1, false, 0, P2.clock + 1⟩).map = put P2.map k w2.heap.size := by
    show (insH _ _ _).map _ = _
    rw [insH_map, put, show del P2.map k = P2.map from List.filter_eq_self.2 fun p hp => by simpa using find_none.1 HN.out p hp]
    rfl
  refine ⟨P2, S2, pg, w2, w2.heap.size, HQ.out, rfl, ⟨?_, ?_, fun p hp => ?_, ?_, ?_, ?_, HP.out.bm, ?_⟩, rfl, hgs, kp⟩
  · exact (k7.block b (by rw [set_size]; have := HP.out.lt; omega) hbg).trans (heap_set w5 b 4 _ _ _ HB5.out)
  · rw [hmap]
    exact (HM5.out.kept k6 (fun e => HP.out.bm (show mb = b from e).symm)).kept k7 (fun e => by have := HP.out.map.lt; have : mb = w2.heap.size := e; omega)
  · rcases insH_mem.1 hp with rfl | hp
    · exact ⟨.inr rfl, heap_set _ _ 4 _ _ _ (heap_set _ _ 1 _ _ _ ((k6.block _ hs5 (fun e => hbg (show w2.heap.size = b from e).symm)).trans HG5.out))⟩
    · have hSp := (HP.out.held _ hp).1
      refine ⟨.inl hSp, (kp.block _ (HP.out.under _ hSp) ?_).trans (HP.out.held _ hp).2⟩
      rintro (e | e)
      · exact HP.out.Sb (e ▸ hSp)
      · exact HP.out.Sm (e ▸ hSp)
  · exact insH_once HP.out.once fun p hp e => by
      have := HP.out.under _ (HP.out.held _ hp).1
      have e : p.2.g = w2.heap.size := e
      omega
  · rintro (e | e)
    · exact HP.out.Sb e
    · exact hbg e
  · rintro (e | e)
    · exact HP.out.Sm e
    · have := HP.out.map.lt; omega
  · rintro x (e | e)
    · exact Nat.lt_of_lt_of_le (HP.out.under x e) kp.size
    · rw [e]; exact hgs
theorem PoolAt.look' {w : World} {b bd mb : Nat} {P : Pl} {S : Nat → Prop} (h : PoolAt w b bd mb P S) (k : Int) (h0 : -9223372036854775808 ≤ k) (h1 : k ≤ 9223372036854775807) :
    (Instr.lookup 74 (.map (some mb)) (.int .i64 k) false).run Tryz.prog w = .ok (ptrOf (Proofs.YthppgchmamonnaaGreatDoor.find P.map k)) w :=
  h.map.look Tryz.underlying74 (by kernel_rfl) k (by simp only [Lit.wf, Bool.and_eq_true, decide_eq_true_eq]; exact ⟨by show -9223372036854775808 ≤ k; omega, by show k ≤ 9223372036854775807; omega⟩)
theorem pool_unpin_no (w : World) (b bd mb : Nat) (P : Pl) (S : Nat → Prop) (h : PoolAt w b bd mb P S) (k : Int) (h0 : -9223372036854775808 ≤ k) (h1 : k ≤ 9223372036854775807) (n : Int) (y : Bool) (hno : find P.map k = none) :
    Calls Tryz.prog 14 #[.pointer (some ⟨b, 0, none⟩), .int .i64 k, .bool y, .int .i64 n] w (RetFault w opPool k 14) := by
  have HC := fun w => Lib.hid (fault_new w opPool k 14)
  unfold opPool at HC
  have HG := Lib.hid (pool_gone w b bd mb P S h)
  have c5 : w.cell? ⟨b, 5, none⟩ = some (.map (some mb)) := cell_at h.head 5 _ rfl
  have hlk := h.look' k h0 h1
  rw [hno] at hlk
  simp only [ptrOf] at hlk
  clear h hno
  go_enter Tryz.func14, Tryz.ntmps14
  go_wp2_with (first
    | (go_at_call 34; refine HG.out.mono ?_; rintro e w' ⟨rfl, rfl⟩)
    | (go_at_call 31; refine (HC _).out.mono ?_; rintro e w2 ⟨g1, rfl, ho1, hk1⟩))
  go_ret
  exact ⟨g1, rfl, ho1, hk1⟩
theorem pool_unpin_zero (w : World) (b bd mb : Nat) (P : Pl) (S : Nat → Prop) (h : PoolAt w b bd mb P S) (k : Int) (h0 : -9223372036854775808 ≤ k) (h1 : k ≤ 9223372036854775807) (n : Int) (y : Bool) (x : Hd) (hx : (k, x) ∈ P.all) (hp : x.pins = 0) :
    Calls Tryz.prog 14 #[.pointer (some ⟨b, 0, none⟩), .int .i64 k, .bool y, .int .i64 n] w (RetFault w opPool k 14) := by
  have HC := fun w => Lib.hid (fault_new w opPool k 14)
  unfold opPool at HC
  have HG := Lib.hid (pool_gone w b bd mb P S h)
  have c5 : w.cell? ⟨b, 5, none⟩ = some (.map (some mb)) := cell_at h.head 5 _ rfl
  have hlk := h.look' k h0 h1
  rw [h.find hx] at hlk
  have d1 : w.cell? ⟨x.g, 1, none⟩ = some (.int .i64 x.pins) := cell_at (h.held _ hx).2 1 _ rfl
  rw [hp] at d1
  simp only [ptrOf] at hlk
  clear h hx hp
  go_enter Tryz.func14, Tryz.ntmps14
  go_wp2_with (first
    | (go_at_call 34; refine HG.out.mono ?_; rintro e w' ⟨rfl, rfl⟩)
    | (go_at_call 31; refine (HC _).out.mono ?_; rintro e w2 ⟨g1, rfl, ho1, hk1⟩))
  go_ret
  exact ⟨g1, rfl, ho1, hk1⟩
def Hd.less (x : Hd) (y : Bool) (n : Int) : Hd := { x with pins := x.pins - 1, dirty := x.dirty || y, lsn := if y then max x.lsn n else x.lsn }
set_option maxRecDepth 100000 in
theorem pool_unpin (w : World) (b bd mb : Nat) (P : Pl) (S : Nat → Prop) (h : PoolAt w b bd mb P S) (k : Int) (h0 : -9223372036854775808 ≤ k) (h1 : k ≤ 9223372036854775807) (n : Int) (y : Bool) (x : Hd) (hx : (k, x) ∈ P.all) (hp : 1 ≤ x.pins) (hq : x.pins ≤ 1000000000000) :
    Calls Tryz.prog 14 #[.pointer (some ⟨b, 0, none⟩), .int .i64 k, .bool y, .int .i64 n] w fun e w' => e = .returned .nilIface ∧ PoolAt w' b bd mb (P.set k (x.less y n)) S ∧ Kept (PoolF b mb S) w w' := by
  have HG := Lib.hid (pool_gone w b bd mb P S h)
  have c5 : w.cell? ⟨b, 5, none⟩ = some (.map (some mb)) := cell_at h.head 5 _ rfl
  have hlk := h.look' k h0 h1
  rw [h.find hx] at hlk
  have hb := (h.held _ hx).2
  have d1 : w.cell? ⟨x.g, 1, none⟩ = some (.int .i64 x.pins) := cell_at hb 1 _ rfl
  have d3 : w.cell? ⟨x.g, 3, none⟩ = some (.int .i64 x.lsn) := cell_at hb 3 _ rfl
  have d2 : w.cell? ⟨x.g, 2, none⟩ = some (.bool x.dirty) := cell_at hb 2 _ rfl
  have e1 := frozen_at hb 1
  have e2 := frozen_at hb 2
  have e3 := frozen_at hb 3
  have hz : ¬ (x.pins : Int) = 0 := by omega
  simp only [ptrOf] at hlk
  have HP := Lib.hid h
  have HX := Lib.hid hx
  clear h hx hb
  cases y with
  | false =>
    go_enter Tryz.func14, Tryz.ntmps14
    go_wp2_with (go_at_call 34; refine HG.out.mono ?_; rintro e w' ⟨rfl, rfl⟩)
    go_ret
    have hSx := (HP.out.held _ HX.out).1
    have k1 := kept1 w x.g 1 (.int .i64 ((x.pins : Int) - 1))
    refine ⟨rfl, HP.out.inner HX.out (x.less false n) rfl k1 ?_, k1.mono fun y _ q => .inr (.inr (by rw [show y = x.g from q]; exact hSx))⟩
    have := heap_set w x.g 1 _ _ (.int .i64 ((x.pins : Int) - 1)) (HP.out.held _ HX.out).2
    rw [this]
    simp only [Hd.less, Bool.or_false, Bool.false_eq_true, if_false]
    rw [show ((x.pins - 1 : Nat) : Int) = (x.pins : Int) - 1 from by omega]
    rfl
  | true =>
    go_enter Tryz.func14, Tryz.ntmps14
    go_wp2_with (go_at_call 34; refine HG.out.mono ?_; rintro e w' ⟨rfl, rfl⟩)
    go_ret
    have hSx := (HP.out.held _ HX.out).1
    have k1 := kept3 w x.g 1 2 3 (.int .i64 ((x.pins : Int) - 1)) (.bool true) (.int .i64 (max x.lsn n))
    refine ⟨rfl, HP.out.inner HX.out (x.less true n) rfl k1 ?_, k1.mono fun y _ q => .inr (.inr (by rw [show y = x.g from q]; exact hSx))⟩
    have := heap3 w x.g 1 2 3 (.int .i64 ((x.pins : Int) - 1)) (.bool true) (.int .i64 (max x.lsn n)) _ _ (HP.out.held _ HX.out).2
    rw [this]
    simp only [Hd.less, Bool.or_true, if_true]
    rw [show ((x.pins - 1 : Nat) : Int) = (x.pins : Int) - 1 from by omega]
    rfl
theorem pool_log (w : World) (b bd mb : Nat) (P : Pl) (S : Nat → Prop) (h : PoolAt w b bd mb P S) (n : Int) :
    Calls Tryz.prog 22 #[.pointer (some ⟨b, 0, none⟩), .int .i64 n] w fun e w' => e = .returned (.tuple #[]) ∧ PoolAt w' b bd mb { P with mark := max P.mark n } S ∧ Kept (Just b) w w' := by
  have HG := Lib.hid (pool_gone w b bd mb P S h)
  have c3 : w.cell? ⟨b, 3, none⟩ = some (.int .i64 P.mark) := cell_at h.head 3 _ rfl
  have f3 := frozen_at h.head 3
  have HP := Lib.hid h
  clear h
  go_enter Tryz.func22, Tryz.ntmps22
  go_wp2_with (go_at_call 34; refine HG.out.mono ?_; rintro e w' ⟨rfl, rfl⟩)
  refine bodyPost_end (results_none rfl _ _ _) rfl ?_
  have k1 := kept1 w b 3 (.int .i64 (max P.mark n))
  exact ⟨rfl, HP.out.turn k1 rfl (heap_set w b 3 _ _ _ HP.out.head), k1⟩
theorem pool_stats (w : World) (b bd mb : Nat) (P : Pl) (S : Nat → Prop) (h : PoolAt w b bd mb P S) :
    Calls Tryz.prog 18 #[.pointer (some ⟨b, 0, none⟩)] w fun e w' => e = .returned (.tuple #[.int .i64 P.hits, .int .i64 P.reads, .int .i64 P.wrote]) ∧ ∃ n, w' = w.drewN n := by
  have HG := Lib.hid (pool_gone w b bd mb P S h)
  have c6 : w.cell? ⟨b, 6, none⟩ = some (.int .i64 P.hits) := cell_at h.head 6 _ rfl
  have c7 : w.cell? ⟨b, 7, none⟩ = some (.int .i64 P.reads) := cell_at h.head 7 _ rfl
  have c8 : w.cell? ⟨b, 8, none⟩ = some (.int .i64 P.wrote) := cell_at h.head 8 _ rfl
  clear h
  go_enter Tryz.func18, Tryz.ntmps18
  go_wp2_with (go_at_call 34; refine HG.out.mono ?_; rintro e w' ⟨rfl, rfl⟩)
  go_quiet (fail)
  go_wp2_with fail
  go_ret3
  exact ⟨rfl, nq, rfl⟩
end Go.Proofs.YthppgchmamonnaaGreatDoor
