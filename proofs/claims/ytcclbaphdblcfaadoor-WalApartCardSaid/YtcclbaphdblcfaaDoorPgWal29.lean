/- The laws of the log: two logs on one disk. -/
import Derived.Test.YtcclbaphdblcfaaDoorPgWal27
namespace Go.Proofs.YtcclbaphdblcfaaDoor
open Go.RowKit

/-- the memory of a log, and of what it should tell -/
def Mem (b : Nat) (R : Nat → Prop) (m : Nat) (X : Nat → Prop) : Nat → Prop := fun x => x = b ∨ R x ∨ x = m ∨ X x
section
variable {w0 w w' : World} {b bd m b2 m2 : Nat} {d d' : Dsk} {L L' L2 : Wal.Lg} {F F' R X R2 X2 : Nat → Prop} {first first2 : Nat} {all all2 : List (List Value)} {N : Nat}
theorem Duo.mem (h : Duo w0 w b bd m d L F R X first all N) : Under (Mem b R m X) w.heap.size := fun x hx => by
  rcases hx with q | q | q | q
  · have := h.up.log.lt; omega
  · exact h.up.log.under x q
  · have := h.x.lt; omega
  · exact h.x.under x q
/-- the other log turns -/
theorem Duo.other (h : Duo w0 w b bd m d L F R X first all N) (hD : DiskAt w' bd d' F') (hk : Kept (Por F (Just b2)) w w') (hg : Grows F w.heap.size F') (h2 : ¬ Mem b R m X b2) (h02 : w0.heap.size ≤ b2) (hst : Stood d d' L2 L')
    (hap : L.frm + 1 + 2 * L.half ≤ L2.frm ∨ L2.frm + 1 + 2 * L2.half ≤ L.frm) : Duo w0 w' b bd m d' L F' R X first all (N + 20000) := by
  have hs := hk.size
  have nb : b ≠ b2 := fun q => h2 (.inl q.symm)
  have nR : ∀ x, R x → x ≠ b2 := fun x q e => h2 (.inr (.inl (e ▸ q)))
  have nm : m ≠ b2 := fun q => h2 (.inr (.inr (.inl q.symm)))
  have nX : ∀ x, X x → x ≠ b2 := fun x q e => h2 (.inr (.inr (.inr (e ▸ q))))
  refine ⟨⟨hD, h.up.log.kept hk (fun q => q.elim h.up.bF nb) (fun x q f => f.elim (h.up.apart x q) (nR x q)), fun q => ?_, fun x q f => ?_, hst.live, hst.calm, h.up.on.same hst.len (fun i h1 h3 => hst.other i (by omega)), fun x q => ?_, h.up.newR, h.up.newB, h.up.kept.trans hk (fun x hx q => ?_), by have := hst.ops; have := h.up.ops; omega⟩,
    h.x.kept hk (fun q => q.elim h.mF nm) (fun x q f => f.elim (h.xF x q) (nX x q)), fun x q f => ?_, h.xR, h.mR, h.xb, fun q => ?_, h.mb, h.newX, h.newM, h.recs⟩
  · rcases hg b q with f | f
    · exact h.up.bF f
    · have := h.up.log.lt; omega
  · rcases hg x f with f | f
    · exact h.up.apart x q f
    · have := h.up.log.under x q; omega
  · rcases hg x q with f | f
    · exact h.up.newF x f
    · have := h.up.kept.size; omega
  · rcases q with q | q
    · have := h.up.newF x q; omega
    · have : x = b2 := q; omega
  · rcases hg x f with f | f
    · exact h.xF x q f
    · have := h.x.under x q; omega
  · rcases hg m q with f | f
    · exact h.mF f
    · have := h.x.lt; omega
/-- what the other log should tell turns -/
theorem Duo.besides (h : Duo w0 w b bd m d L F R X first all N) {G : Nat → Prop} (hk : Kept G w w') (hF : Disj F G) (hG : ∀ x, Mem b R m X x → ¬ G x) (h0 : ∀ x, x < w0.heap.size → ¬ G x) : Duo w0 w' b bd m d L F R X first all N :=
  ⟨h.up.rest hk (hG b (.inl rfl)) hF (fun x q => hG x (.inr (.inl q))) h0, h.x.kept hk (hG m (.inr (.inr (.inl rfl)))) (fun x q => hG x (.inr (.inr (.inr q)))), h.xF, h.xR, h.mR, h.xb, h.mF, h.mb, h.newX, h.newM, h.recs⟩
/-- both stay apart -/
theorem Mem.grows (h : Disj (Mem b R m X) (Mem b2 R2 m2 X2)) (hu : Under (Mem b2 R2 m2 X2) w.heap.size) {R' X' : Nat → Prop} (hR : Grows R w.heap.size R') (hX : ∀ x, X' x → X x ∨ w.heap.size ≤ x) : Disj (Mem b R' m X') (Mem b2 R2 m2 X2) := fun x q q2 => by
  have := hu x q2
  rcases q with q | q | q | q
  · exact h x (.inl q) q2
  · rcases hR x q with f | f
    · exact h x (.inr (.inl f)) q2
    · omega
  · exact h x (.inr (.inr (.inl q))) q2
  · rcases hX x q with f | f
    · exact h x (.inr (.inr (.inr f))) q2
    · omega
/-- Append, that goes through: all that it leaves -/
theorem Duo.appendX {v : Value} {us : List Value} {rs : List (List Value)} {G : Nat → Prop} (h : Duo w0 w b bd m d L F R X first all N) (hs : Side w0 w b m F R X v us rs G) (htl : Tells L first all) (hrs : ∀ r ∈ rs, Wal.Rec r) (h0 : 0 < rs.length) (h40 : rs.length ≤ 40) (hsm : all.length + rs.length ≤ 1000000000) (hN : N ≤ 1000000000000) (hmay : L.may rs = true) :
    Calls Tryd.prog 15 #[.pointer (some ⟨b, 0, none⟩), v] w fun e w' => e = .returned (.tuple #[.int .i64 all.length, .nilIface]) ∧ ∃ d' F' R', Duo w0 w' b bd m d' (L.grow rs) F' R' X first all (N + 20000) ∧ Side w0 w' b m F' R' X v us rs G ∧ Stood d d' L (L.grow rs) ∧ Kept (Por F (Just b)) w w' ∧ Grows F w.heap.size F' ∧ Grows R w.heap.size R' := by
  have hl := htl.length
  refine (log_append w b bd L R d F h.up.log h.up.on h.up.disk h.up.bF h.up.live (by have := h.up.ops; omega) h.up.apart v us rs G hs.v hs.rows hrs h0 h40 (by omega)).mono fun e w' q => ?_
  obtain ⟨rfl, hto⟩ := q.1 hmay
  obtain ⟨d', F', R', q1, q2, q3, q4, q5⟩ := h.stepR hto
  exact ⟨by rw [hl], d', F', R', q1, hs.step q2 q3 q4, q5, q2, q3, q4⟩
/-- another log is opened beside -/
theorem Up.besideOpen (h : Up w0 w b bd d L F R N) (hon2 : Wal.On d.now L2) {en : Ending} (hop : RetOpen w bd d.sync.1 F L2 en w') :
    ∃ b2 F' R2, en = .returned (.tuple #[.pointer (some ⟨b2, 0, none⟩), .nilIface]) ∧ Up w0 w' b bd d.sync.1 L F' R (N + 1) ∧ Up w0 w' b2 bd d.sync.1 L2 F' R2 (N + 1) ∧ w.heap.size ≤ b2 ∧ (∀ x, R2 x → w.heap.size ≤ x) ∧ Kept F w w' ∧ d.sync.1.now = d.now := by
  obtain ⟨b2, R2, F', rfl, h1, h2, h3, h4, h5, h6, h7, h8⟩ := hop
  have hs := h.kept.size
  have hsy := Wal.sync_now h.live
  have hF0 : ∀ x, F' x → w0.heap.size ≤ x := fun x hx => by
    rcases h3 x hx with q | q
    · exact h.newF x q
    · omega
  have hk : Kept Nob w0 w' := h.kept.trans h8 (fun x hx g => by have := h.newF x g; omega)
  have hops : d.sync.1.ops ≤ N + 1 := by rw [hsy.2.2]; have := h.ops; omega
  refine ⟨b2, F', R2, rfl, ⟨h2, h.log.kept h8 h.bF h.apart, fun q => ?_, fun x q f => ?_, h.live.sync, hsy.2.1, by rw [hsy.1]; exact h.on, hF0, h.newR, h.newB, hk, hops⟩, ⟨h2, h1, h6, h7, h.live.sync, hsy.2.1, by rw [hsy.1]; exact hon2, hF0, fun x hx => Nat.le_trans hs (h4 x hx), by omega, hk, hops⟩, h5, h4, h8, hsy.1⟩
  · rcases h3 b q with f | f
    · exact h.bF f
    · have := h.log.lt; omega
  · rcases h3 x f with f | f
    · exact h.apart x q f
    · have := h.log.under x q; omega
end
end Go.Proofs.YtcclbaphdblcfaaDoor
