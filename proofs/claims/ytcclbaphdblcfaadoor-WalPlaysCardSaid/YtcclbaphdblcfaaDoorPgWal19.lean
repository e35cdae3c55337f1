/- The laws of the log: what a log should tell, in memory; same. -/
import Derived.Test.YtcclbaphdblcfaaDoorPgWal18
import Derived.Test.YtcclbaphdblcfaaDoorPgIs
namespace Go.Proofs.YtcclbaphdblcfaaDoor
open Go.RowKit

/-- The struct at block m says: the first record, and all. The row of rows lies apart from the rows. -/
def XAt (w : World) (m first : Nat) (all : List (List Value)) (X : Nat → Prop) : Prop :=
  ∃ (av : Value) (vs : List Value) (Y : Nat → Prop), w.heap[m]? = some (.cells #[.int .i64 first, av] 36 (0, 0)) ∧ Own w 47 av vs (fun x => X x ∧ ¬ Y x) ∧ ReadRows w vs all (fun x => X x ∧ Y x) ∧ ¬ X m ∧ Under X w.heap.size
theorem XAt.plain {w : World} {m first : Nat} {all : List (List Value)} {X : Nat → Prop} (h : XAt w m first all X) : ∃ av vs, w.heap[m]? = some (.cells #[.int .i64 first, av] 36 (0, 0)) ∧ Own w 47 av vs X ∧ ReadRows w vs all X ∧ ¬ X m ∧ Under X w.heap.size := by
  obtain ⟨av, vs, Y, h1, h2, h3, h4, h5⟩ := h
  exact ⟨av, vs, h1, h2.mono fun x _ q => q.1, h3.mono fun x _ q => q.1, h4, h5⟩
theorem XAt.kept {w w' : World} {m first : Nat} {all : List (List Value)} {X G : Nat → Prop} (h : XAt w m first all X) (hk : Kept G w w') (hm : ¬ G m) (hd : Disj X G) : XAt w' m first all X := by
  obtain ⟨av, vs, Y, h1, h2, h3, h4, h5⟩ := h
  have hlt : m < w.heap.size := (Array.getElem?_eq_some_iff.1 h1).1
  exact ⟨av, vs, Y, (hk.block m hlt hm).trans h1, h2.kept hk (fun x q => hd x q.1), h3.kept hk (fun x q => hd x q.1), h4, h5.mono hk.size⟩
theorem XAt.lt {w : World} {m first : Nat} {all : List (List Value)} {X : Nat → Prop} (h : XAt w m first all X) : m < w.heap.size := by obtain ⟨_, _, _, h1, _⟩ := h; exact (Array.getElem?_eq_some_iff.1 h1).1
theorem XAt.under {w : World} {m first : Nat} {all : List (List Value)} {X : Nat → Prop} (h : XAt w m first all X) : Under X w.heap.size := by obtain ⟨_, _, _, _, _, _, _, h⟩ := h; exact h
theorem XAt.notM {w : World} {m first : Nat} {all : List (List Value)} {X : Nat → Prop} (h : XAt w m first all X) : ¬ X m := by obtain ⟨_, _, _, _, _, _, h, _⟩ := h; exact h
theorem XAt.new (w : World) : XAt (w.alloc (.cells #[.int .i64 0, .slice none 0 0] 36)) w.heap.size 0 [] (fun _ => False) :=
  ⟨.slice none 0 0, [], fun _ => True, heap_alloc_new w _, Own.nil _ _ _, ReadRows.nil _ _, fun h => h, fun _ h => h.elim⟩
/-- the first record is another one -/
theorem XAt.turn {w : World} {m first : Nat} {all : List (List Value)} {X : Nat → Prop} (h : XAt w m first all X) (k : Nat) : XAt (w.setCell ⟨m, 0, none⟩ (.int .i64 k)) m k all X := by
  obtain ⟨av, vs, Y, h1, h2, h3, h4, h5⟩ := h
  have kk := kept1 w m 0 (.int .i64 k)
  have hd : ∀ x, X x → ¬ Just m x := fun x hx hj => h4 (by rw [show x = m from hj] at hx; exact hx)
  exact ⟨av, vs, Y, heap_set w m 0 _ _ _ h1, h2.kept kk (fun x q => hd x q.1), h3.kept kk (fun x q => hd x q.1), h4, h5.mono kk.size⟩
/-- rows are put behind -/
theorem XAt.more {w w1 : World} {m first : Nat} {all : List (List Value)} {X : Nat → Prop} {av : Value} {vs : List Value} {Y G : Nat → Prop} {rs : List (List Value)} {us : List Value}
    (h1 : w.heap[m]? = some (.cells #[.int .i64 first, av] 36 (0, 0))) (h2 : Own w 47 av vs (fun x => X x ∧ ¬ Y x)) (h3 : ReadRows w vs all (fun x => X x ∧ Y x)) (h4 : ¬ X m) (h5 : Under X w.heap.size)
    (hr : ReadRows w us rs G) (hG : ∀ x, G x → ¬ (X x ∧ ¬ Y x)) (hGm : ¬ G m) (hGu : Under G w.heap.size) {b : Option Addr} {n c : Nat} (ho : Own w1 47 (.slice b n c) (vs ++ us) (fun x => av.ownBlock = some x ∨ w.heap.size ≤ x)) (hk : Kept (fun x => av.ownBlock = some x) w w1) :
    XAt (w1.setCell ⟨m, 1, none⟩ (.slice b n c)) m first (all ++ rs) (fun x => X x ∨ G x ∨ (w.heap.size ≤ x ∧ x < w1.heap.size)) := by
  have hlt : m < w.heap.size := (Array.getElem?_eq_some_iff.1 h1).1
  have hmo : ¬ av.ownBlock = some m := fun q => h4 (h2.2 m q).1
  have kk := kept1 w1 m 1 (.slice b n c)
  have hs := hk.size
  have hXm : ∀ x, (X x ∨ G x ∨ (w.heap.size ≤ x ∧ x < w1.heap.size)) → ¬ Just m x := fun x q hj => by
    have hj : x = m := hj
    rw [hj] at q
    rcases q with q | q | q
    · exact h4 q
    · exact hGm q
    · omega
  have e1 := ho.mono (G := fun x => (X x ∨ G x ∨ (w.heap.size ≤ x ∧ x < w1.heap.size)) ∧ ¬ ((X x ∧ Y x) ∨ G x)) (fun x hx q => by
    refine ⟨?_, ?_⟩
    · rcases q with q | q
      · exact .inl (h2.2 x q).1
      · exact .inr (.inr ⟨q, hx⟩)
    · rintro (q2 | q2)
      · rcases q with q | q
        · exact (h2.2 x q).2 q2.2
        · have := h5 x q2.1; omega
      · rcases q with q | q
        · exact hG x q2 (h2.2 x q)
        · have := hGu x q2; omega)
  have e2 := ((h3.kept hk (fun x q q2 => (h2.2 x q2).2 q.2)).mono (G := fun x => (X x ∨ G x ∨ (w.heap.size ≤ x ∧ x < w1.heap.size)) ∧ ((X x ∧ Y x) ∨ G x)) fun x _ q => ⟨.inl q.1, .inl q⟩).append ((hr.kept hk (fun x q q2 => hG x q (h2.2 x q2))).mono fun x _ q => ⟨.inr (.inl q), .inr q⟩)
  refine ⟨.slice b n c, vs ++ us, fun x => (X x ∧ Y x) ∨ G x, heap_set w1 m 1 _ _ _ ((hk.block m hlt hmo).trans h1), e1.kept kk (fun x q => hXm x q.1), e2.kept kk (fun x q => hXm x q.1), fun q => hXm m q rfl, fun x q => ?_⟩
  rw [set_size]
  rcases q with q | q | q
  · have := h5 x q; omega
  · have := hGu x q; omega
  · exact q.2
/-- rows of rows, apart -/
theorem OwnRows.apart {w : World} {v : Value} {xss : List (List Value)} {F : Nat → Prop} (h : OwnRows w 47 5 v xss F) : ∃ vs, Own w 47 v vs (fun x => F x ∧ ¬ v.ownBlock ≠ some x) ∧ ReadRows w vs xss (fun x => F x ∧ v.ownBlock ≠ some x) := by
  obtain ⟨vs, h1, h2⟩ := h
  refine ⟨vs, ⟨h1.1, fun x hx => ⟨h1.2 x hx, fun q => q hx⟩⟩, h2.len, fun i u y hu hy => ?_⟩
  have ho := h2.own i u y hu hy
  refine (show Own w 5 u y (fun x => F x ∧ v.ownBlock ≠ some x) from ⟨ho.1, fun x hx => ⟨ho.2 x hx, fun hv => ?_⟩⟩).reads
  obtain ⟨c1, e1⟩ := h1.blockIs hv
  obtain ⟨c2, e2⟩ := ho.blockIs hx
  rw [e1] at e2
  simp at e2

/-- a log that tells just that -/
structure Tells (L : Wal.Lg) (first : Nat) (all : List (List Value)) : Prop where
  frst : L.first = first
  le : first ≤ all.length
  recs : L.recs = all.drop first
theorem Tells.length {L : Wal.Lg} {first : Nat} {all : List (List Value)} (h : Tells L first all) : L.first + L.recs.length = all.length := by
  rw [h.recs, h.frst, List.length_drop]; have := h.le; omega
theorem Tells.get {L : Wal.Lg} {first : Nat} {all : List (List Value)} (h : Tells L first all) {k : Nat} (h1 : first ≤ k) (h2 : k < all.length) : L.recs.getD (k - L.first) [] = all[k] := by
  rw [h.recs, h.frst, List.getD_eq_getElem?_getD, List.getElem?_drop, show first + (k - first) = k from by omega, List.getElem?_eq_getElem h2]; rfl
theorem Tells.grow {L : Wal.Lg} {first : Nat} {all : List (List Value)} (h : Tells L first all) (rs : List (List Value)) : Tells (L.grow rs) first (all ++ rs) :=
  ⟨(Wal.grow_first L rs).trans h.frst, by rw [List.length_append]; have := h.le; omega, by rw [Wal.grow_recs, h.recs, List.drop_append_of_le_length h.le]⟩
theorem Tells.trim {L : Wal.Lg} {first : Nat} {all : List (List Value)} (h : Tells L first all) {k : Nat} (h1 : first ≤ k) (h2 : k ≤ all.length) : Tells (L.trim k) k all :=
  ⟨rfl, h2, by show L.recs.drop (k - L.first) = _; rw [h.recs, h.frst, List.drop_drop]; congr 1; omega⟩
theorem Tells.none (frm half : Nat) : Tells (Wal.Lg.none frm half) 0 [] := ⟨rfl, Nat.le_refl _, rfl⟩

set_option maxRecDepth 100000 in
set_option maxHeartbeats 4000000 in
theorem same_log (w : World) (m first : Nat) (all : List (List Value)) (X : Nat → Prop) (hX : XAt w m first all X) (b bd : Nat) (L : Wal.Lg) (R : Nat → Prop) (hL : LogAt w b bd L R) (hTl : Tells L first all) (hs : all.length ≤ 1000000000) (hrec : ∀ r ∈ all, Wal.Rec r) (hT : Typed w) :
    Calls Tryd.prog 19 #[.pointer (some ⟨m, 0, none⟩), .pointer (some ⟨b, 0, none⟩)] w (RetTrue w) := by
  have hln := hTl.length
  have hle := hTl.le
  have hfi := hTl.frst
  have HF := Lib.hid (fun n => log_first (w.drewN n) b bd L R (hL.kept (Kept.drewN Nob w n) (fun f => f) (fun _ _ f => f)))
  have HLn := Lib.hid (fun n => log_len (w.drewN n) b bd L R (hL.kept (Kept.drewN Nob w n) (fun f => f) (fun _ _ f => f)) (by omega))
  have ei : (L.first : Int) + (L.recs.length : Int) = (all.length : Int) := by omega
  rw [hfi] at HF
  rw [ei] at HLn
  clear ei
  obtain ⟨av, vs, hb, hav, hvs, -, -⟩ := hX.plain
  have hvl := hvs.1
  obtain ⟨aa, ac, rfl, -⟩ := hav.reads.shape
  rw [hvl] at hb hav
  have c0 : w.cell? ⟨m, 0, none⟩ = some (.int .i64 first) := cell_at hb 0 _ rfl
  have c1 : w.cell? ⟨m, 1, none⟩ = some (.slice aa all.length ac) := cell_at hb 1 _ rfl
  have hml := cell_lt c0
  have HC0 := Lib.hid c0
  have HC1 := Lib.hid c1
  have HL := Lib.hid hL
  have HTl := Lib.hid hTl
  have HAv := Lib.hid hav.reads
  have HVs := Lib.hid hvs
  have HVl := Lib.hid hvl
  have HRec := Lib.hid hrec
  have HT := Lib.hid hT
  have HLn2 := Lib.hid hln
  have a1 : decide ((first : Int) = (first : Int)) = true := by simp
  have a2 : decide ((all.length : Int) = (all.length : Int)) = true := by simp
  clear hb hL hTl hav hvs hvl hrec hT hfi hln
  go_enter Tryd.func19, Tryd.ntmps19
  go_wp2_with fail
  go_quiet ((first | (go_at_call 26; exact Calls.quiet_of_same ((HF.out _).mono fun e w' h => ⟨h.1, h.2.symm⟩)) | (go_at_call 25; exact Calls.quiet_of (HLn.out _))))
  go_wp2_with fail
  have HR0 : Hid (Kept Nob w (w.drewN nq)) := Kept.drewN _ _ _
  go_loopw [5] (fun i wr => ∃ k : Nat, first ≤ k ∧ k ≤ all.length ∧ i = .int .i64 k ∧ Kept Nob w wr) (fun i _ => all.length - (intOf i).toNat)
  case atStart => exact ⟨first, Nat.le_refl _, hle, rfl, HR0.out⟩
  case round =>
    clear HR0
    obtain ⟨k, hk1, hk, rfl, hkw⟩ := hrel
    have HK := Lib.hid hkw
    have d0 := (hkw.cell (p := ⟨m, 0, none⟩) hml (fun f => f)).trans HC0.out
    have d1 := (hkw.cell (p := ⟨m, 1, none⟩) hml (fun f => f)).trans HC1.out
    clear hkw c0 c1
    have hLr := HL.out.kept HK.out (fun f => f) (fun _ _ f => f)
    by_cases hlt : k < all.length
    · have hg := log_get wr b bd L R hLr (by have := HLn2.out; omega) (fun r hr => HRec.out r (by rw [HTl.out.recs] at hr; exact List.mem_of_mem_drop hr)) k (by have := HTl.out.frst; omega) (by have := HLn2.out; omega)
      rw [HTl.out.get hk1 hlt] at hg
      have HG := Lib.hid hg
      obtain ⟨bb, oo, x, rfl, hx, hc, -⟩ := HAv.out.cell (i := k) (by rw [HVl.out]; exact hlt)
      have hrow := HVs.out.2 k x all[k] hx (List.getElem?_eq_getElem hlt)
      have hrec := HRec.out all[k] (List.getElem_mem hlt)
      obtain ⟨xa, xc, rfl, -⟩ := hrow.shape
      have HRow := Lib.hid hrow
      have HRc := Lib.hid hrec
      have HCc := Lib.hid hc
      clear hx hc hrow hrec hg hLr
      generalize all[k] = r at *
      go_wp2_with fail
      refine HG.out.mono ?_
      rintro e w2 ⟨b2, c2, rfl, ho2, hk2⟩
      have HO2 := Lib.hid ho2
      have HK2 := Lib.hid (HK.out.then hk2)
      have e1 := (hk2.cell (cell_lt d1) (fun f => f)).trans d1
      have e2 := (HK2.out.cell (cell_lt HCc.out) (fun f => f)).trans HCc.out
      have HBy := Lib.hid (fun n => bytes_rows (w2.drewN n) _ _ r r _ _ (HO2.out.reads.kept (Kept.drewN Nob w2 n) (fun _ _ f => f)) (HRow.out.kept (HK2.out.then (Kept.drewN Nob w2 n)) (fun _ _ f => f)) HRc.out.2 HRc.out.2 (by have := HRc.out.1; omega) (by have := HRc.out.1; omega))
      clear ho2 hk2 d0 d1 HG
      go_wp2_with (go_at_call 22; refine (HBy.out 0).mono ?_; rintro e w5 ⟨r5, n5, rfl, hr5, rfl⟩; obtain rfl : r5 = true := hr5.2 rfl; clear hr5)
      have HK5 := Lib.hid (HK2.out.then ((Kept.drewN Nob _ 0).trans' (Kept.drewN Nob _ n5)))
      go_roundw
      case rel => exact ⟨k + 1, by omega, by omega, by go_num, HK5.out⟩
      case measure => simp [intOf]; omega
    · have hkl : k = all.length := by omega
      subst hkl
      have HB1 := Lib.hid (log_get_bad wr b bd L R hLr (by have := HLn2.out; omega) ((first : Int) - 1) (by have := HTl.out.frst; omega))
      have HLr := Lib.hid hLr
      clear hLr hlt
      go_wp2_with fail
      refine HB1.out.mono ?_
      rintro e w2 ⟨g2, rfl, hf2, hk2⟩
      have HF2 := Lib.hid hf2
      have HK2 := Lib.hid (HK.out.then hk2)
      have HB2 := Lib.hid (log_get_bad w2 b bd L R (HLr.out.kept hk2 (fun f => f) (fun _ _ f => f)) (by have := HLn2.out; omega) (all.length : Int) (by have := HLn2.out; omega))
      have e0 := (hk2.cell (cell_lt d0) (fun f => f)).trans d0
      have e1 := (hk2.cell (cell_lt d1) (fun f => f)).trans d1
      clear hf2 hk2 d0 d1 HB1
      go_wp2_with fail
      refine HB2.out.mono ?_
      rintro e w3 ⟨g3, rfl, hf3, hk3⟩
      have HF3 := Lib.hid hf3
      have HK3 := Lib.hid (HK2.out.then hk3)
      have d0 := (hk3.cell (cell_lt e0) (fun f => f)).trans e0
      have d1 := (hk3.cell (cell_lt e1) (fun f => f)).trans e1
      have hI2 := is_this w3 _ opWal _ 15 _ (HF2.out.kept hk3 (fun _ _ f => f)) (by omega) (by omega) (HT.out.kept HK3.out (fun f => f))
      have hI3 := fun W (q : Kept Nob w3 W) => is_this W _ opWal _ 15 _ (HF3.out.kept q (fun _ _ f => f)) (by omega) (by omega) (HT.out.kept (HK3.out.then q) (fun f => f))
      unfold opWal at hI2 hI3
      have HI2 := Lib.hid hI2
      have HI3 := Lib.hid hI3
      clear hf3 hk3 e0 e1 HB2 hI2 hI3
      go_wp2_with (first
        | (go_at_call 16; (with_reducible refine HI2.out.mono ?_); rintro e w4 ⟨rfl, hk4⟩; have HK4 := Lib.hid hk4; have f0 := (hk4.cell (cell_lt d0) (fun f => f)).trans d0; have f1 := (hk4.cell (cell_lt d1) (fun f => f)).trans d1; clear hk4)
        | (go_at_call 16; (with_reducible refine (HI3.out _ HK4.out).mono ?_); rintro e w5 ⟨rfl, hk5⟩))
      go_ret
      exact ⟨rfl, (HK3.out.then HK4.out).then hk5⟩
end Go.Proofs.YtcclbaphdblcfaaDoor
