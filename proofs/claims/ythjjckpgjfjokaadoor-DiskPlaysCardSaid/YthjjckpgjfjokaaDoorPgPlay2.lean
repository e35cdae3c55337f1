/- DiskPlays: both disks at once: each call's answers, and what is left. -/
import Derived.Test.YthjjckpgjfjokaaDoorPgPlay1
namespace Go.Proofs.YthjjckpgjfjokaaDoor
open Go.RowKit

/-- the value v is an error of that number: none, or a Fault with that op and id -/
def ErrAt (w : World) (v : Value) (op : ByteArray) (id : Int) (code : Nat) : Prop :=
  (code = 0 ∧ v = .nilIface) ∨ (1 ≤ code ∧ code ≤ 15 ∧ FaultAt w v op id code (fun _ => True))
theorem ErrAt.kept {w w' : World} {v : Value} {op : ByteArray} {id : Int} {code : Nat} (h : ErrAt w v op id code) {G B : Nat → Prop} (hk : Kept G w w') (hb : ∀ k, G k → B k) (hv : ∀ g, v = .iface 66 (.pointer (some ⟨g, 0, none⟩)) → ¬ B g) : ErrAt w' v op id code := by
  rcases h with h | ⟨h1, h2, g, e1, -, e3, e4⟩
  · exact .inl h
  · exact .inr ⟨h1, h2, g, e1, trivial, Nat.lt_of_lt_of_le e3 hk.size, (hk.block g e3 (fun q => hv g e1 (hb g q))).trans e4⟩
/-- behind a call of the disk that answers by an error -/
def RetErr (w : World) (b : Nat) (d : Dsk) (F : Nat → Prop) (op : ByteArray) (id : Int) (code : Nat) (en : Ending) (w' : World) : Prop :=
  ∃ v, en = .returned v ∧ ErrAt w' v op id code ∧ (∀ g, v = .iface 66 (.pointer (some ⟨g, 0, none⟩)) → w.heap.size ≤ g) ∧ (∃ F', DiskAt w' b d F' ∧ Grows F w.heap.size F') ∧ Kept F w w'

theorem RetWrite.err {w : World} {b : Nat} {d : Dsk} {F : Nat → Prop} {op : ByteArray} {id : Int} {en : Ending} {w' : World} (h : RetWrite w b d F en w') : RetErr w b d F op id 0 en w' := by
  obtain ⟨h1, F', h2, h3, h4⟩ := h
  exact ⟨.nilIface, h1, .inl ⟨rfl, rfl⟩, (fun g h => by cases h), ⟨F', h2, h3⟩, h4⟩
theorem RetNoWrite.err {w : World} {b : Nat} {d : Dsk} {F : Nat → Prop} {op : ByteArray} {id : Int} {code : Nat} (h1 : 1 ≤ code) (h2 : code ≤ 15) {en : Ending} {w' : World} (h : RetNoWrite w b d F op id code en w') : RetErr w b d F op id code en w' := by
  obtain ⟨g, e, hf, hD, hk⟩ := h
  refine ⟨_, e, .inr ⟨h1, h2, hf.mono fun _ _ _ => trivial⟩, fun g' h => ?_, ⟨F, hD, Grows.refl _ _⟩, hk⟩
  simp only [Value.iface.injEq, Value.pointer.injEq, Option.some.injEq, Addr.mk.injEq, and_true, true_and] at h
  subst h
  obtain ⟨g2, e1, e2, -, -⟩ := hf
  simp only [Value.iface.injEq, Value.pointer.injEq, Option.some.injEq, Addr.mk.injEq, and_true, true_and] at e1
  subst e1
  exact e2

theorem disk_write_any (w : World) (b : Nat) (d : Dsk) (F : Nat → Prop) (h : DiskAt w b d F) (k : Int) (v : Value) (x : List Value) (G : Nat → Prop) (hx : Reads w v x G) (hxx : ∀ u ∈ x, IsByte u) (hd : Disj G F) (hops : d.ops < 9223372036854775807) :
    Calls Tryd.prog 8 #[.pointer (some ⟨b, 0, none⟩), .int .i64 k, v] w (RetErr w b (d.write k x).1 F opWrite k (d.write k x).2) := by
  have hl := h.wf.len
  obtain ⟨a, c, rfl, -⟩ := hx.shape
  by_cases hr : k < 0 ∨ d.good.length ≤ k
  · have e : d.write k x = (d, 2) := by unfold Dsk.write; rw [if_pos (by rw [hl]; exact hr)]
    rw [e]
    exact (disk_write_range w b d F h k hr a x.length c).mono fun en w' q => RetNoWrite.err (by omega) (by omega) q
  · obtain ⟨n, rfl⟩ : ∃ n : Nat, k = n := ⟨k.toNat, by omega⟩
    have hn : n < d.good.length := by omega
    by_cases h64 : x.length = 64
    · by_cases hgo : d.goes = true
      · have e : d.write n x = (d.begun.put n x, 0) := by unfold Dsk.write; rw [if_neg (by rw [hl]; exact hr), if_neg (by omega), if_pos hgo]; rfl
        rw [e]
        exact (disk_write w b d F h n hn _ x G hx ⟨h64, hxx⟩ hd hops hgo).mono fun en w' q => q.err
      · have hgf : d.goes = false := by simpa using hgo
        have e : d.write n x = (d.begun, 9) := by unfold Dsk.write; rw [if_neg (by rw [hl]; exact hr), if_neg (by omega), if_neg hgo]
        rw [e, h64]
        exact (disk_write_off w b d F h n hn a c hops hgf).mono fun en w' q => RetNoWrite.err (by omega) (by omega) q
    · have e : d.write n x = (d, 1) := by unfold Dsk.write; rw [if_neg (by rw [hl]; exact hr), if_pos h64]
      rw [e]
      exact (disk_write_arg w b d F h n hn a x.length c h64).mono fun en w' q => RetNoWrite.err (by omega) (by omega) q

/-- behind a call of the document's disk -/
def RetDoc (w : World) (m : Nat) (d : Dsk) (R : Nat → Prop) (code : Nat) (en : Ending) (w' : World) : Prop :=
  en = .returned (.int .i64 code) ∧ (∃ R', DocAt w' m d R' ∧ Grows R w.heap.size R') ∧ Kept (Just m) w w'

theorem doc_write_any (w : World) (m : Nat) (d : Dsk) (R : Nat → Prop) (h : DocAt w m d R) (k : Int) (v : Value) (x : List Value) (G : Nat → Prop) (hx : Reads w v x G) (hxx : ∀ u ∈ x, IsByte u) (hG : ¬ G m) (hops : d.ops < 9223372036854775807) :
    Calls Tryd.prog 19 #[.pointer (some ⟨m, 0, none⟩), .int .i64 k, v] w (RetDoc w m (d.write k x).1 R (d.write k x).2) := by
  have hl := h.wf.len
  obtain ⟨a, c, rfl, -⟩ := hx.shape
  by_cases hr : k < 0 ∨ d.good.length ≤ k
  · have e : d.write k x = (d, 2) := by unfold Dsk.write; rw [if_pos (by rw [hl]; exact hr)]
    rw [e]
    exact (doc_write_range w m d R h k hr a x.length c).mono fun en w' ⟨q1, q2⟩ => ⟨q1, ⟨R, q2 ▸ h, Grows.refl _ _⟩, q2 ▸ Kept.refl _ _⟩
  · obtain ⟨n, rfl⟩ : ∃ n : Nat, k = n := ⟨k.toNat, by omega⟩
    have hn : n < d.good.length := by omega
    by_cases h64 : x.length = 64
    · by_cases hgo : d.goes = true
      · have e : d.write n x = (d.begun.put n x, 0) := by unfold Dsk.write; rw [if_neg (by rw [hl]; exact hr), if_neg (by omega), if_pos hgo]; rfl
        rw [e]
        exact (doc_write w m d R h n hn _ x G hx ⟨h64, hxx⟩ hG hops hgo).mono fun en w' q => q
      · have hgf : d.goes = false := by simpa using hgo
        have e : d.write n x = (d.begun, 9) := by unfold Dsk.write; rw [if_neg (by rw [hl]; exact hr), if_neg (by omega), if_neg hgo]
        rw [e, h64]
        exact (doc_write_off w m d R h n hn a c hops hgf).mono fun en w' ⟨q1, q2, q3⟩ => ⟨q1, ⟨R, q2, Grows.refl _ _⟩, q3⟩
    · have e : d.write n x = (d, 1) := by unfold Dsk.write; rw [if_neg (by rw [hl]; exact hr), if_pos h64]
      rw [e]
      exact (doc_write_arg w m d R h n hn a x.length c h64).mono fun en w' ⟨q1, q2⟩ => ⟨q1, ⟨R, q2 ▸ h, Grows.refl _ _⟩, q2 ▸ Kept.refl _ _⟩

theorem disk_sync_any (w : World) (b : Nat) (d : Dsk) (F : Nat → Prop) (h : DiskAt w b d F) (hops : d.ops < 9223372036854775807) :
    Calls Tryd.prog 20 #[.pointer (some ⟨b, 0, none⟩)] w (RetErr w b d.sync.1 F opSync 0 d.sync.2) := by
  by_cases hgo : d.goes = true
  · have e : d.sync.2 = 0 := by simp [Dsk.sync, hgo]
    rw [e]
    exact (disk_sync w b d F h hops hgo).mono fun en w' q => q.err
  · have hgf : d.goes = false := by simpa using hgo
    have e : d.sync = (d.begun, 9) := by simp [Dsk.sync, hgf]
    rw [e]
    exact (disk_sync_off w b d F h hops hgf).mono fun en w' q => RetNoWrite.err (by omega) (by omega) q
theorem doc_sync_any (w : World) (m : Nat) (d : Dsk) (R : Nat → Prop) (h : DocAt w m d R) (hops : d.ops < 9223372036854775807) :
    Calls Tryd.prog 21 #[.pointer (some ⟨m, 0, none⟩)] w (RetDoc w m d.sync.1 R d.sync.2) := by
  by_cases hgo : d.goes = true
  · have e : d.sync.2 = 0 := by simp [Dsk.sync, hgo]
    rw [e]
    exact (doc_sync w m d R h hops hgo).mono fun en w' q => q
  · have hgf : d.goes = false := by simpa using hgo
    have e : d.sync = (d.begun, 9) := by simp [Dsk.sync, hgf]
    rw [e]
    exact (doc_sync_off w m d R h hops hgf).mono fun en w' ⟨q1, q2, q3⟩ => ⟨q1, ⟨R, q2, Grows.refl _ _⟩, q3⟩

theorem is_err (w : World) (v : Value) (op : ByteArray) (id : Int) (code : Nat) (h : ErrAt w v op id code) (ht : Typed w) :
    Calls Tryd.prog 10 #[v, .int .i64 code, .string op, .int .i64 id] w (RetTrue w) := by
  rcases h with ⟨rfl, rfl⟩ | ⟨h1, h2, h3⟩
  · exact (is_none w op id).mono fun e w' ⟨q1, q2⟩ => ⟨q1, q2 ▸ Kept.refl _ _⟩
  · exact is_this w v op id code _ h3 (by omega) (by omega) ht

/-- Both disks are d, apart from each other and from all that was there at w. -/
structure Pair (w : World) (b m : Nat) (d : Dsk) (F R : Nat → Prop) (wr : World) : Prop where
  disk : DiskAt wr b d F
  doc : DocAt wr m d R
  apart : Disj F R
  noM : ¬ F m
  newF : ∀ j, F j → w.heap.size ≤ j
  newR : ∀ j, R j → w.heap.size ≤ j
  newM : w.heap.size ≤ m
  kept : Kept Nob w wr
theorem Pair.calm {w : World} {b m : Nat} {d : Dsk} {F R : Nat → Prop} {wr w' : World} (h : Pair w b m d F R wr) (hk : Kept Nob wr w') : Pair w b m d F R w' :=
  ⟨h.disk.kept hk (fun _ _ f => f), h.doc.kept hk (fun f => f) (fun _ _ f => f), h.apart, h.noM, h.newF, h.newR, h.newM, h.kept.then hk⟩
/-- first the one, then the other -/
theorem Pair.both {w : World} {b m : Nat} {d d' : Dsk} {F F' R R' : Nat → Prop} {wr w1 w2 : World} (h : Pair w b m d F R wr) (h1 : DiskAt w1 b d' F') (hg : Grows F wr.heap.size F') (hk1 : Kept F wr w1) (hD2 : DocAt w2 m d' R') (hg2 : Grows R w1.heap.size R') (hk2 : Kept (Just m) w1 w2) : Pair w b m d' F' R' w2 := by
  have hs := hk1.size
  have hml := h.doc.lt
  have hnm : ¬ F' m := fun q => by
    rcases hg m q with q | q
    · exact h.noM q
    · omega
  have hu1 := h1.under
  refine ⟨h1.kept hk2 (fun j hj hm => hnm (by rw [show j = m from hm] at hj; exact hj)), hD2, fun j hj hr => ?_, hnm, fun j hj => ?_, fun j hj => ?_, h.newM, ?_⟩
  · rcases hg2 j hr with q | q
    · rcases hg j hj with q' | q'
      · exact h.apart j q' q
      · have := h.doc.under j q; omega
    · have := hu1 j hj; omega
  · rcases hg j hj with q | q
    · exact h.newF j q
    · exact Nat.le_trans h.kept.size q
  · rcases hg2 j hj with q | q
    · exact h.newR j q
    · have := h.kept.size; omega
  · refine (h.kept.from (Nat.le_refl _) (hk1.mono fun j _ hj => h.newF j hj)).from (Nat.le_refl _) (hk2.mono fun j _ hj => ?_)
    rw [show j = m from hj]; exact h.newM
/-- the doc disk behind a call of the other -/
theorem Pair.docOn {w : World} {b m : Nat} {d : Dsk} {F R : Nat → Prop} {wr w1 : World} (h : Pair w b m d F R wr) (hk1 : Kept F wr w1) : DocAt w1 m d R := h.doc.kept hk1 h.noM h.apart.symm
end Go.Proofs.YthjjckpgjfjokaaDoor
