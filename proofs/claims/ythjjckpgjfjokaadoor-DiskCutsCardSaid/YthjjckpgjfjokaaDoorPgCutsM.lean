/- DiskCuts: the plain law: a disk that is cut, behind j writes to sectors 0, 1, .. -/
import Derived.Test.YthjjckpgjfjokaaDoorPgDisk8
import Derived.Test.YthjjckpgjfjokaaDoorPgAlike
namespace Go.Proofs.YthjjckpgjfjokaaDoor
open Go.RowKit

/-- a disk that is new since w -/
def DiskNew (w : World) (inv : Dsk → Prop) (b : Nat) (wr : World) : Prop :=
  ∃ d F, inv d ∧ DiskAt wr b d F ∧ (∀ k, F k → w.heap.size ≤ k) ∧ Kept Nob w wr

theorem DiskNew.post {w wr w1 w3 : World} {inv : Dsk → Prop} {b : Nat} {d' : Dsk} {F F3 : Nat → Prop} (hnF : ∀ k, F k → w.heap.size ≤ k) (hk : Kept Nob w wr) (hk1 : Kept Nob wr w1)
    (hD3 : DiskAt w3 b d' F3) (hg3 : Grows F w1.heap.size F3) (hk3 : Kept F w1 w3) (hinv : inv d') : DiskNew w inv b w3 := by
  have s0 := hk.size
  have s1 := hk1.size
  refine ⟨d', F3, hinv, hD3, fun k h => ?_, (hk.then hk1).from (Nat.le_refl _) (hk3.mono fun k _ h => hnF k h)⟩
  rcases hg3 k h with h | h
  · exact hnF k h
  · omega


/-- a disk of 100 sectors, cut at n, behind writes to the sectors 0 .. j - 1 -/
structure CutInv (n : Int) (j : Nat) (d : Dsk) : Prop where
  len : d.good.length = 100
  nlen : d.now.length = 100
  ops : d.ops = j
  cut : d.cut = true
  left : d.left = max n 0 - min (j : Int) (max n 0)
  off : d.off = decide (1 ≤ j ∧ n < (j : Int))
  now : ∀ i : Nat, i < 100 → d.now.getD i [] = if i < j ∧ (i : Int) < n then blockRow 64 i else Dsk.zeroSector

theorem CutInv.fresh (n : Int) : CutInv n 0 ((Dsk.fresh 100).slash n) := by
  refine ⟨by simp [Dsk.fresh, Dsk.slash], by simp [Dsk.fresh, Dsk.slash], rfl, rfl, ?_, ?_, fun i hi => ?_⟩
  · simp only [Dsk.slash]; omega
  · simp [Dsk.fresh, Dsk.slash]
  · simp only [Nat.not_lt_zero, false_and, if_false]
    show (List.replicate 100 Dsk.zeroSector).getD i [] = Dsk.zeroSector
    generalize (100 : Nat) = k at hi ⊢
    simp [List.getD, List.getElem?_replicate, hi]
theorem CutInv.goes {n : Int} {j : Nat} {d : Dsk} (h : CutInv n j d) : d.goes = decide ((j : Int) < n) := by
  simp only [Dsk.goes, h.cut, h.off, h.left, Bool.true_and]
  by_cases hj : (j : Int) < n
  · simp [hj]; omega
  · simp [hj]; omega
theorem CutInv.on {n : Int} {j : Nat} {d : Dsk} (h : CutInv n j d) (hj : (j : Int) < n) : CutInv n (j + 1) (d.begun.put j (blockRow 64 j)) := by
  have hg : d.goes = true := by rw [h.goes]; simpa using hj
  refine ⟨h.len, ?_, ?_, h.cut, ?_, ?_, fun i hi => ?_⟩
  · show (d.now.set j _).length = 100; simp [h.nlen]
  · show d.ops + 1 = _; rw [h.ops]; omega
  · show (if d.goes && d.cut then d.left - 1 else d.left) = _
    rw [hg, h.cut, h.left]; simp; omega
  · show (!d.goes) = _; rw [hg]; simp; omega
  · show (d.now.set j (blockRow 64 j)).getD i [] = _
    by_cases hij : i = j
    · subst hij
      have : i < d.now.length := by rw [h.nlen]; exact hi
      rw [if_pos ⟨Nat.lt_succ_self _, hj⟩]
      simp [List.getD, this]
    · have e : (d.now.set j (blockRow 64 j)).getD i [] = d.now.getD i [] := by simp [List.getD, List.getElem?_set, Ne.symm hij]
      rw [e, h.now i hi]
      by_cases hc : i < j ∧ (i : Int) < n
      · rw [if_pos hc, if_pos ⟨by omega, hc.2⟩]
      · rw [if_neg hc, if_neg (fun q => hc ⟨by omega, q.2⟩)]
theorem CutInv.offed {n : Int} {j : Nat} {d : Dsk} (h : CutInv n j d) (hj : ¬ (j : Int) < n) : CutInv n (j + 1) d.begun := by
  have hg : d.goes = false := by rw [h.goes]; simpa using hj
  refine ⟨h.len, h.nlen, ?_, h.cut, ?_, ?_, fun i hi => ?_⟩
  · show d.ops + 1 = _; rw [h.ops]; omega
  · show (if d.goes && d.cut then d.left - 1 else d.left) = _
    rw [hg, h.left]; simp; omega
  · show (!d.goes) = _; rw [hg]; simp; omega
  · show d.now.getD i [] = _
    rw [h.now i hi]
    by_cases hc : i < j ∧ (i : Int) < n
    · rw [if_pos hc, if_pos ⟨by omega, hc.2⟩]
    · rw [if_neg hc, if_neg (fun q => hc ⟨by omega, q.2⟩)]
theorem CutInv.off_on {n : Int} {j : Nat} {d : Dsk} (h : CutInv n j d) (hj : (j : Int) < n) : (d.begun.put j (blockRow 64 j)).off = false := by
  show (!d.goes) = false; rw [h.goes]; simpa using hj
theorem CutInv.off_off {n : Int} {j : Nat} {d : Dsk} (h : CutInv n j d) (hj : ¬ (j : Int) < n) : d.begun.off = true := by
  show (!d.goes) = true; rw [h.goes]; simpa using hj
end Go.Proofs.YthjjckpgjfjokaaDoor
