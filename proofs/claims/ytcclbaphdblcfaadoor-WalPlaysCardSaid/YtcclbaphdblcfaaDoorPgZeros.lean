/- append(s, make([]T, n)...) on a row of the call's own. No program in sight. -/
import Derived.Test.YtcclbaphdblcfaaDoorPgBase
import Derived.Lib.AppendZerosOnto
namespace Go.Proofs.YtcclbaphdblcfaaDoor
open Go.RowKit

theorem zeroCells_list {z : Value} (h : z.oneCell' = true) (n : Nat) : Builtin.zeroCells z.cells n = (List.replicate n z).toArray := by
  have e1 : z.cells = #[z] := by cases z <;> simp_all [Value.cells, Value.oneCell']
  rw [e1]
  refine Array.ext (by simp [Builtin.zeroCells]) fun i h1 h2 => ?_
  simp [Builtin.zeroCells, Nat.mod_one]

section
variable {P : Program} {ops : Array Oper} {rest : List Oper} {o : Oper} {a : Act} {Q : Exit → Act → World → Prop} {w : World}
theorem append0_law {t tn e : TypeId} {z : Value} {bytes : Nat} {kn : IntKind} (T : Plain P t e z bytes) (htn : P.underlying tn = some (.int kn)) (h1 : z.oneCell' = true) {v : Value} {xs : List Value} {F : Nat → Prop} (hown : Own w e v xs F) (n : Nat)
    (hsz : (xs.length + n) * (bytes + 1) ≤ 140737488355328) (ty : TypeId) :
    ∃ v' w', (Builtin.append_ #[t, tn] ty #[v, .int .i64 n]).run P w = .ok v' w' ∧ Own w' e v' (xs ++ List.replicate n z) (fun k => v.ownBlock = some k ∨ w.heap.size ≤ k) ∧ Kept (fun k => v.ownBlock = some k) w w' := by
  obtain ⟨i, hi, hz, hs, hb⟩ := T.info
  have hm : xs.length + n ≤ maxLen := by
    unfold maxLen
    have : (xs.length + n) * 1 ≤ (xs.length + n) * (bytes + 1) := Nat.mul_le_mul_left _ (by omega)
    omega
  have hlim : xs.length + n ≤ 140737488355328 := by
    have : (xs.length + n) * 1 ≤ (xs.length + n) * (bytes + 1) := Nat.mul_le_mul_left _ (by omega)
    omega
  have hby : (xs.length + n) * bytes ≤ 140737488355328 := Nat.le_trans (Nat.mul_le_mul_left _ (by omega)) hsz
  have hnb : n * bytes ≤ 140737488355328 := Nat.le_trans (Nat.mul_le_mul_right _ (by omega)) hby
  have hw : IntKind.i64.wrap (n : Int) = n := by rw [IntKind.wrap_i64]; omega
  have h48i : ¬ (281474976710656 < (n : Int) * (bytes : Int)) := by
    rw [← Int.natCast_mul]; omega
  have grown : ∀ old, old < xs.length + n →
      Own (w.drew.alloc (.cells (xs.toArray ++ Builtin.zeroCells z.cells n ++ Builtin.zeroCells z.cells (grownCap w (xs.length + n) old e - (xs.length + n))) e)) e
        (.slice (some ⟨w.heap.size, 0, none⟩) (xs.length + n) (grownCap w (xs.length + n) old e)) (xs ++ List.replicate n z) (fun k => v.ownBlock = some k ∨ w.heap.size ≤ k) ∧
      Kept (fun k => v.ownBlock = some k) w (w.drew.alloc (.cells (xs.toArray ++ Builtin.zeroCells z.cells n ++ Builtin.zeroCells z.cells (grownCap w (xs.length + n) old e - (xs.length + n))) e)) := by
    intro old ho
    have hge := grownCap_ge w (xs.length + n) old e
    have hcm : grownCap w (xs.length + n) old e ≤ maxLen := grownCap_le_maxLen w _ old e hm
    refine ⟨⟨⟨by simp, .inr ⟨w.heap.size, _, _, by simp, Nat.zero_le _, heap_alloc_new w.drew _, by simpa using hge, hcm, ?_, ?_⟩⟩, fun g hg => ?_⟩, (Kept.drew _ w).trans' (Kept.alloc _ _ _)⟩
    · simp only [Array.size_append, List.size_toArray, size_zeroCells, T.one]
      omega
    · rw [zeroCells_list h1 n]
      simp only [Array.toList_append, Nat.mul_one]
      exact List.take_left' (by simp)
    · simp [Value.ownBlock] at hg
      exact .inr (by omega)
  rcases hown.shape with ⟨rfl, rfl⟩ | ⟨g, cap', cur, rfl, hF, hlt, hc', hm', hg, hcs, ht⟩
  · by_cases h0 : n = 0
    · subst h0
      refine ⟨.slice none 0 0, w, ?_, by simpa using Own.nil _ _ _, Kept.refl _ _⟩
      simp [Builtin.append_, run_underlying T.sl, run_underlying htn, sizeOf, typeInfo, hi, asInt, asIntOf, IntKind.wrap_i64]
    · have hrun := Lib.run_append_nil_zeros (P := P) w t tn ty e i z .i64 kn T.sl htn hi hz n (by omega) (by omega) (by omega) (by rw [hb]; omega)
      have hgr := grown 0 (by simp; omega)
      simp only [List.length_nil, Nat.zero_add, List.nil_append, Array.empty_append] at hgr ⊢
      exact ⟨_, _, hrun, hgr.1, hgr.2⟩
  · by_cases h0 : n = 0
    · subst h0
      refine ⟨.slice (some ⟨g, 0, none⟩) xs.length cap', w, ?_, by
        have h : Own w e (.slice (some ⟨g, 0, none⟩) xs.length cap') xs (fun k => (Value.slice (some ⟨g, 0, none⟩) xs.length cap').ownBlock = some k ∨ w.heap.size ≤ k) := ⟨hown.1, fun k hk => .inl hk⟩
        simp only [List.replicate_zero, List.append_nil]
        exact h, Kept.refl _ _⟩
      simp [Builtin.append_, run_underlying T.sl, run_underlying htn, sizeOf, typeInfo, hi, asInt, asIntOf, IntKind.wrap_i64, hc', storeCells]
    · by_cases hroom : xs.length + n ≤ cap'
      · have hst := run_storeCells_at (P := P) g xs.length e (List.replicate n z) 0 cur w hg (by simp; omega) (fun u hu => by rw [List.mem_replicate] at hu; rw [hu.2]; exact h1)
        simp only [Nat.add_zero] at hst
        have hadd : (⟨g, 0, none⟩ : Addr).add xs.length = ⟨g, xs.length, none⟩ := by unfold Addr.add; split <;> simp_all
        have hneg : ¬ ((n : Int) < 0) := by omega
        refine ⟨.slice (some ⟨g, 0, none⟩) (xs.length + n) cap', (w.setRow g (cur.toList.take xs.length ++ List.replicate n z ++ cur.toList.drop (xs.length + (List.replicate n z).length)).toArray), ?_, ⟨⟨by simp, .inr ⟨g, cap', _, by simp, Nat.zero_le _, setRow_heap w g cur _ e _ hg, by simpa using hroom, hm', ?_, ?_⟩⟩, fun k hk => .inl hk⟩, ?_⟩
        · simp [Builtin.append_, run_underlying T.sl, run_underlying htn, sizeOf, typeInfo, zeroValue, hi, hz, hs, asInt, asIntOf, hw, hneg, hb, h48i, hroom, h0, zeroCells_list h1, hadd, hst]
        · have := Array.length_toList (xs := cur)
          simp only [List.size_toArray, List.length_append, List.length_take, List.length_drop, List.length_replicate, Nat.mul_one]
          omega
        · simp only [Nat.mul_one, ht]
          exact List.take_left' (by simp)
        · exact ⟨rfl, rfl, rfl, by simp [World.setRow], fun k _ hk => setRow_other w g k _ (fun e => hk (by simp [Value.ownBlock, e]))⟩
      · have holds : ∀ j u, xs[j]? = some u → w.drew.cell? ((⟨g, 0, none⟩ : Addr).add j) = some u := hown.1.cells (g := g) rfl
        have hold := run_firstCells_some (P := P) w.drew i.size xs.length ⟨g, 0, none⟩ xs.length cap' xs (by rw [hs]; simp) holds
        have hrun := Lib.run_append_grow_zeros (P := P) w t tn ty e i z .i64 kn T.sl htn hi hz (some ⟨g, 0, none⟩) xs.length cap' xs hold n (by omega) (by omega) (by omega) (by omega) (by rw [hb]; omega) (by rw [hb]; exact growslice_fits (by omega) hby)
        have hgr := grown cap' (by omega)
        exact ⟨_, _, hrun, hgr.1, hgr.2⟩

/-- append(s, make([]T, n)...) as a step of the walk -/
theorem wpList_append0_pg (hgd : o.guard = none) (s x : Operand) (t tn : TypeId) (ho : o.op = .call { callee := .builtin .append, args := #[s, x], argTypes := #[t, tn] })
    {e : TypeId} {z : Value} {bytes : Nat} {kn : IntKind} (T : Plain P t e z bytes) (htn : P.underlying tn = some (.int kn)) (h1 : z.oneCell' = true) (v : Value) (xs : List Value) (F : Nat → Prop) (n : Nat) (hs : a.eval s = v) (hx : a.eval x = .int .i64 n) (hown : Own w e v xs F)
    (hsz : (xs.length + n) * (bytes + 1) ≤ 140737488355328)
    (h : ∀ (b : Option Addr) (cap : Nat) (w' : World), Own w' e (.slice b (xs.length + n) cap) (xs ++ List.replicate n z) (fun k => v.ownBlock = some k ∨ w.heap.size ≤ k) → Kept (fun k => v.ownBlock = some k) w w' →
      wpList P ops Q rest (a.put o.dst (.slice b (xs.length + n) cap)) w') : wpList P ops Q (o :: rest) a w := by
  refine wpList_plain hgd fun K hK => ?_
  obtain ⟨v', w', hrun, h2, h3⟩ := append0_law T htn h1 hown n hsz o.type
  have hsh : ∃ b cap, v' = .slice b (xs.length + n) cap := by
    rcases h2.shape with ⟨rfl, hx⟩ | ⟨g, cap, cur, rfl, _⟩
    · refine ⟨none, 0, ?_⟩
      have := congrArg List.length hx
      simp at this
      rw [this.1, this.2]; rfl
    · exact ⟨some ⟨g, 0, none⟩, cap, by simp⟩
  obtain ⟨b, cap, rfl⟩ := hsh
  unfold Oper.wp execOp
  simp only [ho, resolve, invoke, builtin, Sem.run_bind, Sem.run_pure, Result.andThen_ok, List.map_toArray, List.map_cons, List.map_nil, hs, hx, hrun]
  exact hK _ _ (h b cap w' h2 h3)
end
end Go.Proofs.YtcclbaphdblcfaaDoor
