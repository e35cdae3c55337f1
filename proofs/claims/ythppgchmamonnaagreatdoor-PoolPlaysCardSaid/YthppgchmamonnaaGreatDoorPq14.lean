/- Both disks' calls, whatever they answer. -/
import Derived.Test.YthppgchmamonnaaGreatDoorPq08
import Derived.Test.YthppgchmamonnaaGreatDoorPq10
import Derived.Test.YthppgchmamonnaaGreatDoorPq13
namespace Go.Proofs.YthppgchmamonnaaGreatDoor
open Go.RowKit
def ErrAt (w : World) (v : Value) (op : ByteArray) (id : Int) (code : Nat) : Prop :=
  (code = 0 ∧ v = .nilIface) ∨ (1 ≤ code ∧ code ≤ 15 ∧ FaultAt w v op id code (fun _ => True))
def RetErr (w : World) (b : Nat) (d : Dsk) (F : Nat → Prop) (op : ByteArray) (id : Int) (code : Nat) (en : Ending) (w' : World) : Prop :=
  ∃ v, en = .returned v ∧ ErrAt w' v op id code ∧ (∀ g, v = .iface 81 (.pointer (some ⟨g, 0, none⟩)) → w.heap.size ≤ g) ∧ (∃ F', DiskAt w' b d F' ∧ Grows F w.heap.size F') ∧ Kept F w w'
theorem RetWrite.err {w : World} {b : Nat} {d : Dsk} {F : Nat → Prop} {op : ByteArray} {id : Int} {en : Ending} {w' : World} (h : RetWrite w b d F en w') : RetErr w b d F op id 0 en w' := by
  obtain ⟨h1, F', h2, h3, h4⟩ := h
  exact ⟨.nilIface, h1, .inl ⟨rfl, rfl⟩, (fun g h => by cases h), ⟨F', h2, h3⟩, h4⟩
theorem RetNoWrite.err {w : World} {b : Nat} {d : Dsk} {F : Nat → Prop} {op : ByteArray} {id : Int} {code : Nat} (h1 : 1 ≤ code) (h2 : code ≤ 15) {en : Ending} {w' : World} (h : RetNoWrite w b d F op id code en w') : RetErr w b d F op id code en w' := by
  obtain ⟨g, e, hf, hD, hk⟩ := h
  refine ⟨_, e, .inr ⟨h1, h2, hf.mono fun _ _ _ => trivial⟩, fun g' h => ?_, ⟨F, hD, Grows.refl _ _⟩, hk⟩
  simp only [Value.iface.injEq, Value.pointer.injEq, Option.some.injEq, Addr.mk.injEq, and_true, true_and] at h
  subst h
  obtain ⟨g2, e1, e2, -, -⟩ := hf
  simp only [Value.iface.injEq, Value.pointer.injEq, Option.some.injEq, Addr.mk.injEq, and_true, true_and] at e1
  subst e1
  exact e2
theorem disk_write_any (w : World) (b : Nat) (d : Dsk) (F : Nat → Prop) (h : DiskAt w b d F) (k : Int) (v : Value) (x : List Value) (G : Nat → Prop) (hx : Reads w v x G) (hxx : ∀ u ∈ x, IsByte u) (hd : Disj G F) (hops : d.ops < 9223372036854775807) :
    Calls Tryz.prog 78 #[.pointer (some ⟨b, 0, none⟩), .int .i64 k, v] w (RetErr w b (d.write k x).1 F opWrite k (d.write k x).2) := by
  have hl := h.wf.len
  obtain ⟨a, c, rfl, -⟩ := hx.shape
  by_cases hr : k < 0 ∨ d.good.length ≤ k
  · have e : d.write k x = (d, 2) := by unfold Dsk.write; rw [if_pos (by rw [hl]; exact hr)]
    rw [e]
    exact (disk_write_range w b d F h k hr a x.length c).mono fun en w' q => RetNoWrite.err (by omega) (by omega) q
  · obtain ⟨n, rfl⟩ : ∃ n : Nat, k = n := ⟨k.toNat, by omega⟩
    have hn : n < d.good.length := by omega
    by_cases h64 : x.length = 64
    · by_cases hgo : d.goes = true
      · have e : d.write n x = (d.begun.put n x, 0) := by unfold Dsk.write; rw [if_neg (by rw [hl]; exact hr), if_neg (by omega), if_pos hgo]; rfl
        rw [e]
        exact (disk_write w b d F h n hn _ x G hx ⟨h64, hxx⟩ hd hops hgo).mono fun en w' q => q.err
      · have hgf : d.goes = false := by simpa using hgo
        have e : d.write n x = (d.begun, 9) := by unfold Dsk.write; rw [if_neg (by rw [hl]; exact hr), if_neg (by omega), if_neg hgo]
        rw [e, h64]
        exact (disk_write_off w b d F h n hn a c hops hgf).mono fun en w' q => RetNoWrite.err (by omega) (by omega) q
    · have e : d.write n x = (d, 1) := by unfold Dsk.write; rw [if_neg (by rw [hl]; exact hr), if_pos h64]
      rw [e]
      exact (disk_write_arg w b d F h n hn a x.length c h64).mono fun en w' q => RetNoWrite.err (by omega) (by omega) q
def RetDoc (w : World) (m : Nat) (d : Dsk) (R : Nat → Prop) (code : Nat) (en : Ending) (w' : World) : Prop :=
  en = .returned (.int .i64 code) ∧ (∃ R', DocAt w' m d R' ∧ Grows R w.heap.size R') ∧ Kept (Just m) w w'
theorem doc_write_any (w : World) (m : Nat) (d : Dsk) (R : Nat → Prop) (h : DocAt w m d R) (k : Int) (v : Value) (x : List Value) (G : Nat → Prop) (hx : Reads w v x G) (hxx : ∀ u ∈ x, IsByte u) (hG : ¬ G m) (hops : d.ops < 9223372036854775807) :
    Calls Tryz.prog 108 #[.pointer (some ⟨m, 0, none⟩), .int .i64 k, v] w (RetDoc w m (d.write k x).1 R (d.write k x).2) := by
  have hl := h.wf.len
  obtain ⟨a, c, rfl, -⟩ := hx.shape
  by_cases hr : k < 0 ∨ d.good.length ≤ k
  · have e : d.write k x = (d, 2) := by unfold Dsk.write; rw [if_pos (by rw [hl]; exact hr)]
    rw [e]
    exact (doc_write_range w m d R h k hr a x.length c).mono fun en w' ⟨q1, q2⟩ => ⟨q1, ⟨R, q2 ▸ h, Grows.refl _ _⟩, q2 ▸ Kept.refl _ _⟩
  · obtain ⟨n, rfl⟩ : ∃ n : Nat, k = n := ⟨k.toNat, by omega⟩
    have hn : n < d.good.length := by omega
    by_cases h64 : x.length = 64
    · by_cases hgo : d.goes = true
      · have e : d.write n x = (d.begun.put n x, 0) := by unfold Dsk.write; rw [if_neg (by rw [hl]; exact hr), if_neg (by omega), if_pos hgo]; rfl
        rw [e]
        exact (doc_write w m d R h n hn _ x G hx ⟨h64, hxx⟩ hG hops hgo).mono fun en w' q => q
      · have hgf : d.goes = false := by simpa using hgo
        have e : d.write n x = (d.begun, 9) := by unfold Dsk.write; rw [if_neg (by rw [hl]; exact hr), if_neg (by omega), if_neg hgo]
        rw [e, h64]
        exact (doc_write_off w m d R h n hn a c hops hgf).mono fun en w' ⟨q1, q2, q3⟩ => ⟨q1, ⟨R, q2, Grows.refl _ _⟩, q3⟩
    · have e : d.write n x = (d, 1) := by unfold Dsk.write; rw [if_neg (by rw [hl]; exact hr), if_pos h64]
      rw [e]
      exact (doc_write_arg w m d R h n hn a x.length c h64).mono fun en w' ⟨q1, q2⟩ => ⟨q1, ⟨R, q2 ▸ h, Grows.refl _ _⟩, q2 ▸ Kept.refl _ _⟩
theorem disk_sync_any (w : World) (b : Nat) (d : Dsk) (F : Nat → Prop) (h : DiskAt w b d F) (hops : d.ops < 9223372036854775807) :
    Calls Tryz.prog 43 #[.pointer (some ⟨b, 0, none⟩)] w (RetErr w b d.sync.1 F opSync 0 d.sync.2) := by
  by_cases hgo : d.goes = true
  · have e : d.sync.2 = 0 := by simp [Dsk.sync, hgo]
    rw [e]
    exact (disk_sync w b d F h hops hgo).mono fun en w' q => q.err
  · have hgf : d.goes = false := by simpa using hgo
    have e : d.sync = (d.begun, 9) := by simp [Dsk.sync, hgf]
    rw [e]
    exact (disk_sync_off w b d F h hops hgf).mono fun en w' q => RetNoWrite.err (by omega) (by omega) q
theorem doc_sync_any (w : World) (m : Nat) (d : Dsk) (R : Nat → Prop) (h : DocAt w m d R) (hops : d.ops < 9223372036854775807) :
    Calls Tryz.prog 88 #[.pointer (some ⟨m, 0, none⟩)] w (RetDoc w m d.sync.1 R d.sync.2) := by
  by_cases hgo : d.goes = true
  · have e : d.sync.2 = 0 := by simp [Dsk.sync, hgo]
    rw [e]
    exact (doc_sync w m d R h hops hgo).mono fun en w' q => q
  · have hgf : d.goes = false := by simpa using hgo
    have e : d.sync = (d.begun, 9) := by simp [Dsk.sync, hgf]
    rw [e]
    exact (doc_sync_off w m d R h hops hgf).mono fun en w' ⟨q1, q2, q3⟩ => ⟨q1, ⟨R, q2, Grows.refl _ _⟩, q3⟩
end Go.Proofs.YthppgchmamonnaaGreatDoor
