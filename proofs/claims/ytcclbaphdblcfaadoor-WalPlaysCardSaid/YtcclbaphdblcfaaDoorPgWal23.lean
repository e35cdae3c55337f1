/- The laws of the log: a log beside what it should tell. -/
import Derived.Test.YtcclbaphdblcfaaDoorPgWal21
namespace Go.Proofs.YtcclbaphdblcfaaDoor
open Go.RowKit

/-- Trim, whatever is let go -/
theorem log_trim (w : World) (b bd : Nat) (L : Wal.Lg) (R : Nat → Prop) (d : Dsk) (F : Nat → Prop) (h : LogAt w b bd L R) (hOn : Wal.On d.now L) (hD : DiskAt w bd d F) (hbF : ¬ F b) (hl : Wal.Live d) (hcalm : d.order = []) (hops : d.ops ≤ 1000000000000) (hRF : Disj R F) (k : Nat) (hk1 : L.first ≤ k) (hk2 : k ≤ L.first + L.recs.length) :
    Calls Tryd.prog 18 #[.pointer (some ⟨b, 0, none⟩), .int .i64 k] w fun e w' => e = .returned .nilIface ∧ LogTo w b bd d F R L (L.trim k) w' := by
  by_cases h0 : L.first < k
  · exact log_trim_some w b bd L R d F h hOn hD hbF hl hops hRF k h0 hk2
  · obtain rfl : k = L.first := by omega
    exact log_trim_none w b bd L R d F h hOn hD hbF hl hcalm hRF

theorem Up.steps {w0 w w' : World} {b bd : Nat} {d : Dsk} {L L' : Wal.Lg} {F R : Nat → Prop} {N : Nat} (h : Up w0 w b bd d L F R N) (ht : LogTo w b bd d F R L L' w') :
    ∃ d' F' R', Up w0 w' b bd d' L' F' R' (N + 20000) ∧ Kept (Por F (Just b)) w w' ∧ Grows F w.heap.size F' ∧ Grows R w.heap.size R' ∧ Stood d d' L L' := by
  obtain ⟨d', F', R', h1, h2, h3, h4, h5, h6, h7, h8⟩ := ht
  have hs := h.kept.size
  refine ⟨d', F', R', ⟨h1, h5, h8, h7, h4.live, h4.calm, h4.on, fun x hx => ?_, fun x hx => ?_, h.newB, h.kept.trans h3 (fun x hx g => ?_), by have := h4.ops; have := h.ops; omega⟩, h3, h2, h6, h4⟩
  · rcases h2 x hx with q | q
    · exact h.newF x q
    · omega
  · rcases h6 x hx with q | q
    · exact h.newR x q
    · omega
  · rcases g with g | g
    · have := h.newF x g; omega
    · have := h.newB; have : x = b := g; omega

/-- A log stands, and beside it what it should tell. -/
structure Duo (w0 w : World) (b bd m : Nat) (d : Dsk) (L : Wal.Lg) (F R X : Nat → Prop) (first : Nat) (all : List (List Value)) (N : Nat) : Prop where
  up : Up w0 w b bd d L F R N
  x : XAt w m first all X
  xF : Disj X F
  xR : Disj X R
  mR : ¬ R m
  xb : ¬ X b
  mF : ¬ F m
  mb : m ≠ b
  newX : ∀ x, X x → w0.heap.size ≤ x
  newM : w0.heap.size ≤ m
  recs : ∀ r ∈ all, Wal.Rec r
section
variable {w0 w w' : World} {b bd m : Nat} {d : Dsk} {L L' : Wal.Lg} {F R X : Nat → Prop} {first : Nat} {all : List (List Value)} {N : Nat}
theorem Duo.start (h : Up w0 w b bd d L F R N) : Duo w0 (w.alloc (.cells #[.int .i64 0, .slice none 0 0] 36)) b bd w.heap.size d L F R (fun _ => False) 0 [] N :=
  ⟨h.nob (Kept.alloc Nob w _), XAt.new w, fun _ h => h.elim, fun _ h => h.elim, fun q => absurd (h.log.under _ q) (Nat.lt_irrefl _), fun q => q, fun q => absurd (h.disk.under _ q) (Nat.lt_irrefl _), fun q => absurd h.log.lt (by rw [← q]; exact Nat.lt_irrefl _), fun _ q => q.elim, h.kept.size, fun r q => by cases q⟩
theorem Duo.nob (h : Duo w0 w b bd m d L F R X first all N) (hk : Kept Nob w w') : Duo w0 w' b bd m d L F R X first all N :=
  ⟨h.up.nob hk, h.x.kept hk (fun f => f) (fun _ _ f => f), h.xF, h.xR, h.mR, h.xb, h.mF, h.mb, h.newX, h.newM, h.recs⟩
/-- the log turns -/
theorem Duo.stepR (h : Duo w0 w b bd m d L F R X first all N) (ht : LogTo w b bd d F R L L' w') :
    ∃ d' F' R', Duo w0 w' b bd m d' L' F' R' X first all (N + 20000) ∧ Kept (Por F (Just b)) w w' ∧ Grows F w.heap.size F' ∧ Grows R w.heap.size R' ∧ Stood d d' L L' := by
  obtain ⟨d', F', R', h1, h2, h3, h4, h5⟩ := h.up.steps ht
  refine ⟨d', F', R', ⟨h1, h.x.kept h2 (fun q => ?_) (fun x hx q => ?_), fun x hx q => ?_, fun x hx q => ?_, fun q => ?_, h.xb, fun q => ?_, h.mb, h.newX, h.newM, h.recs⟩, h2, h3, h4, h5⟩
  · rcases q with q | q
    · exact h.mF q
    · exact h.mb q
  · rcases q with q | q
    · exact h.xF x hx q
    · exact h.xb (by rw [show x = b from q] at hx; exact hx)
  · rcases h3 x q with q | q
    · exact h.xF x hx q
    · have := h.x.under x hx; omega
  · rcases h4 x q with q | q
    · exact h.xR x hx q
    · have := h.x.under x hx; omega
  · rcases h4 m q with q | q
    · exact h.mR q
    · have := h.x.lt; omega
  · rcases h3 m q with q | q
    · exact h.mF q
    · have := h.x.lt; omega
/-- memory that is not the log's turns -/
theorem Duo.keptM {G : Nat → Prop} (h : Duo w0 w b bd m d L F R X first all N) (hk : Kept G w w') (hG : ∀ x, x < w.heap.size → G x → x = m ∨ X x) : Up w0 w' b bd d L F R N := by
  have hk' : Kept (fun x => x = m ∨ X x) w w' := hk.mono hG
  refine h.up.rest hk' (fun q => ?_) (fun x hx q => ?_) (fun x hx q => ?_) (fun x hx q => ?_)
  · rcases q with q | q
    · exact h.mb q.symm
    · exact h.xb q
  · rcases q with q | q
    · exact h.mF (by rw [q] at hx; exact hx)
    · exact h.xF x q hx
  · rcases q with q | q
    · exact h.mR (by rw [q] at hx; exact hx)
    · exact h.xR x q hx
  · rcases q with q | q
    · have := h.newM; omega
    · have := h.newX x q; omega
/-- the first record is another one -/
theorem Duo.turn (h : Duo w0 w b bd m d L F R X first all N) (k : Nat) : Duo w0 (w.setCell ⟨m, 0, none⟩ (.int .i64 k)) b bd m d L F R X k all N :=
  ⟨h.keptM (kept1 w m 0 _) (fun x _ q => .inl q), h.x.turn k, h.xF, h.xR, h.mR, h.xb, h.mF, h.mb, h.newX, h.newM, h.recs⟩
/-- rows beside them -/
structure Side (w0 w : World) (b m : Nat) (F R X : Nat → Prop) (v : Value) (us : List Value) (rs : List (List Value)) (G : Nat → Prop) : Prop where
  v : Reads w v us G
  rows : ReadRows w us rs G
  GF : Disj G F
  GR : Disj G R
  GX : Disj G X
  Gm : ¬ G m
  Gb : ¬ G b
  G0 : ∀ x, G x → w0.heap.size ≤ x
  Gu : Under G w.heap.size
theorem Side.nob {v : Value} {us : List Value} {rs : List (List Value)} {G : Nat → Prop} (h : Side w0 w b m F R X v us rs G) (hk : Kept Nob w w') : Side w0 w' b m F R X v us rs G :=
  ⟨h.v.kept hk (fun _ _ f => f), h.rows.kept hk (fun _ _ f => f), h.GF, h.GR, h.GX, h.Gm, h.Gb, h.G0, h.Gu.mono hk.size⟩
theorem Side.turn {v : Value} {us : List Value} {rs : List (List Value)} {G : Nat → Prop} (h : Side w0 w b m F R X v us rs G) (i : Nat) (y : Value) : Side w0 (w.setCell ⟨m, i, none⟩ y) b m F R X v us rs G := by
  have hk := kept1 w m i y
  have hd : ∀ x, G x → ¬ Just m x := fun x q hj => h.Gm (by rw [show x = m from hj] at q; exact q)
  exact ⟨h.v.kept hk hd, h.rows.kept hk hd, h.GF, h.GR, h.GX, h.Gm, h.Gb, h.G0, h.Gu.mono hk.size⟩
theorem Side.step {v : Value} {us : List Value} {rs : List (List Value)} {F' R' G : Nat → Prop} (h : Side w0 w b m F R X v us rs G) (hk : Kept (Por F (Just b)) w w') (hF : Grows F w.heap.size F') (hR : Grows R w.heap.size R') : Side w0 w' b m F' R' X v us rs G := by
  have hd : ∀ x, G x → ¬ Por F (Just b) x := fun x q hj => by
    rcases hj with hj | hj
    · exact h.GF x q hj
    · exact h.Gb (by rw [show x = b from hj] at q; exact q)
  refine ⟨h.v.kept hk hd, h.rows.kept hk hd, fun x q f => ?_, fun x q f => ?_, h.GX, h.Gm, h.Gb, h.G0, h.Gu.mono hk.size⟩
  · rcases hF x f with f | f
    · exact h.GF x q f
    · have := h.Gu x q; omega
  · rcases hR x f with f | f
    · exact h.GR x q f
    · have := h.Gu x q; omega
/-- rows that were just made -/
theorem Side.fresh {wr w1 : World} {v : Value} {rs : List (List Value)} (h : Duo w0 wr b bd m d L F R X first all N) (hk : Kept Nob wr w1) (ho : OwnRows w1 47 5 v rs (From wr.heap.size)) : ∃ us, Side w0 w1 b m F R X v us rs (fun x => wr.heap.size ≤ x ∧ x < w1.heap.size) := by
  obtain ⟨us, h1, h2⟩ := ho
  have h0 := h.up.kept.size
  refine ⟨us, h1.reads.mono fun x hx q => ⟨q, hx⟩, h2.read.mono fun x hx q => ⟨q, hx⟩, fun x q f => ?_, fun x q f => ?_, fun x q f => ?_, fun q => ?_, fun q => ?_, fun x q => ?_, fun x q => q.2⟩
  · have := h.up.disk.under x f; omega
  · have := h.up.log.under x f; omega
  · have := h.x.under x f; omega
  · have := h.x.lt; omega
  · have := h.up.log.lt; omega
  · omega
/-- Append, that goes through -/
theorem Duo.append {v : Value} {us : List Value} {rs : List (List Value)} {G : Nat → Prop} (h : Duo w0 w b bd m d L F R X first all N) (hs : Side w0 w b m F R X v us rs G) (htl : Tells L first all) (hrs : ∀ r ∈ rs, Wal.Rec r) (h0 : 0 < rs.length) (h40 : rs.length ≤ 40) (hsm : all.length + rs.length ≤ 1000000000) (hN : N ≤ 1000000000000) (hmay : L.may rs = true) :
    Calls Tryd.prog 15 #[.pointer (some ⟨b, 0, none⟩), v] w fun e w' => e = .returned (.tuple #[.int .i64 all.length, .nilIface]) ∧ ∃ d' F' R', Duo w0 w' b bd m d' (L.grow rs) F' R' X first all (N + 20000) ∧ Side w0 w' b m F' R' X v us rs G ∧ Stood d d' L (L.grow rs) := by
  have hl := htl.length
  refine (log_append w b bd L R d F h.up.log h.up.on h.up.disk h.up.bF h.up.live (by have := h.up.ops; omega) h.up.apart v us rs G hs.v hs.rows hrs h0 h40 (by omega)).mono fun e w' q => ?_
  obtain ⟨rfl, hto⟩ := q.1 hmay
  obtain ⟨d', F', R', q1, q2, q3, q4, q5⟩ := h.stepR hto
  exact ⟨by rw [hl], d', F', R', q1, hs.step q2 q3 q4, q5⟩
/-- Append, for which there is no room -/
theorem Duo.append_full {v : Value} {us : List Value} {rs : List (List Value)} {G : Nat → Prop} (h : Duo w0 w b bd m d L F R X first all N) (hs : Side w0 w b m F R X v us rs G) (htl : Tells L first all) (hrs : ∀ r ∈ rs, Wal.Rec r) (h0 : 0 < rs.length) (h40 : rs.length ≤ 40) (hsm : all.length + rs.length ≤ 1000000000) (hN : N ≤ 1000000000000) (hmay : L.may rs = false) :
    Calls Tryd.prog 15 #[.pointer (some ⟨b, 0, none⟩), v] w (RetNoApp w opWal 0 8) := by
  have hl := htl.length
  exact (log_append w b bd L R d F h.up.log h.up.on h.up.disk h.up.bF h.up.live (by have := h.up.ops; omega) h.up.apart v us rs G hs.v hs.rows hrs h0 h40 (by omega)).mono fun e w' q => q.2 hmay
/-- Trim -/
theorem Duo.trim (h : Duo w0 w b bd m d L F R X first all N) (htl : Tells L first all) (hN : N ≤ 1000000000000) (k : Nat) (h1 : first ≤ k) (h2 : k ≤ all.length) :
    Calls Tryd.prog 18 #[.pointer (some ⟨b, 0, none⟩), .int .i64 k] w fun e w' => e = .returned .nilIface ∧ ∃ d' F' R', Duo w0 w' b bd m d' (L.trim k) F' R' X first all (N + 20000) ∧ (∀ v us rs G, Side w0 w b m F R X v us rs G → Side w0 w' b m F' R' X v us rs G) ∧ Stood d d' L (L.trim k) := by
  have hl := htl.length
  refine (log_trim w b bd L R d F h.up.log h.up.on h.up.disk h.up.bF h.up.live h.up.calm (by have := h.up.ops; omega) h.up.apart k (by rw [htl.frst]; exact h1) (by omega)).mono fun e w' ⟨he, hto⟩ => ?_
  obtain ⟨d', F', R', q1, q2, q3, q4, q5⟩ := h.stepR hto
  exact ⟨he, d', F', R', q1, fun v us rs G hs => hs.step q2 q3 q4, q5⟩
/-- rows are put behind: the append, and the store -/
theorem Duo.more {w1 : World} {av : Value} {vs : List Value} {Y G : Nat → Prop} {rs : List (List Value)} {us : List Value} (h : Duo w0 w b bd m d L F R X first all N)
    (h1 : w.heap[m]? = some (.cells #[.int .i64 first, av] 36 (0, 0))) (h2 : Own w 47 av vs (fun x => X x ∧ ¬ Y x)) (h3 : ReadRows w vs all (fun x => X x ∧ Y x))
    {v : Value} (hs : Side w0 w b m F R X v us rs G) (hrec : ∀ r ∈ rs, Wal.Rec r) {ob : Option Addr} {n c : Nat} (ho : Own w1 47 (.slice ob n c) (vs ++ us) (fun x => av.ownBlock = some x ∨ w.heap.size ≤ x)) (hk : Kept (fun x => av.ownBlock = some x) w w1) :
    Duo w0 (w1.setCell ⟨m, 1, none⟩ (.slice ob n c)) b bd m d L F R (fun x => X x ∨ G x ∨ (w.heap.size ≤ x ∧ x < w1.heap.size)) first (all ++ rs) N := by
  have hX := h.x
  obtain ⟨_, _, _, _, _, _, h4, h5⟩ := hX
  have hr := hs.rows
  have hGX := hs.GX
  have hGm := hs.Gm
  have hGb := hs.Gb
  have hGF := hs.GF
  have hGR := hs.GR
  have hG0 := hs.G0
  have hGu := hs.Gu
  have kall : Kept (fun x => x = m ∨ X x) w (w1.setCell ⟨m, 1, none⟩ (.slice ob n c)) := (hk.mono fun x _ q => .inr (h2.2 x q).1).trans (kept1 w1 m 1 _) (fun x _ q => .inl q)
  refine ⟨h.keptM kall (fun x _ q => q), XAt.more h1 h2 h3 h4 h5 hr (fun x q q2 => hGX x q q2.1) hGm hGu ho hk, fun x q f => ?_, fun x q f => ?_, h.mR, fun q => ?_, h.mF, h.mb, fun x q => ?_, h.newM, fun r hr' => ?_⟩
  · rcases q with q | q | q
    · exact h.xF x q f
    · exact hGF x q f
    · have := h.up.disk.under x f; omega
  · rcases q with q | q | q
    · exact h.xR x q f
    · exact hGR x q f
    · have := h.up.log.under x f; omega
  · rcases q with q | q | q
    · exact h.xb q
    · exact hGb q
    · have := h.up.log.lt; omega
  · rcases q with q | q | q
    · exact h.newX x q
    · exact hG0 x q
    · have := h.up.kept.size; omega
  · rcases List.mem_append.1 hr' with q | q
    · exact h.recs r q
    · exact hrec r q
end
end Go.Proofs.YtcclbaphdblcfaaDoor
