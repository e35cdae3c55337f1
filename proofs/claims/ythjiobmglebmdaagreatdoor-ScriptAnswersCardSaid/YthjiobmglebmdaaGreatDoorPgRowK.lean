/- Rows whose elements are structs: k cells an element. What a call owns (OwnK), what is read (ReadsK); append. No program in sight. -/
import Derived.Test.YthjiobmglebmdaaGreatDoorPgBase
namespace Go.Proofs.YthjiobmglebmdaaGreatDoor
open Go.RowKit

/-- The slice v, of the call's own, holds n elements of k cells each: xs; its block is in F. -/
def OwnK (k : Nat) (w : World) (e : TypeId) (v : Value) (n : Nat) (xs : List Value) (F : Nat → Prop) : Prop :=
  w.ownsRow 0 e k v n xs ∧ ∀ g, v.ownBlock = some g → F g
/-- The slice v reads as n elements of k cells each: xs, from cells of blocks in F. -/
def ReadsK (k : Nat) (w : World) (v : Value) (n : Nat) (xs : List Value) (F : Nat → Prop) : Prop :=
  xs.length = n * k ∧ ((n = 0 ∧ ∃ a cap, v = .slice a 0 cap ∧ (a = none → cap = 0)) ∨
  ∃ b o cap, v = .slice (some ⟨b, o, none⟩) n cap ∧ n ≤ cap ∧ b < w.heap.size ∧ F b ∧ ∀ i x, xs[i]? = some x → w.cell? ⟨b, o + i, none⟩ = some x)

theorem heap_setK (w : World) (b i : Nat) (cs : Array Value) (e : TypeId) (v : Value) (hb : w.heap[b]? = some (.cells cs e (0, 0))) : (w.setCell ⟨b, i, none⟩ v).heap[b]? = some (.cells (cs.setIfInBounds i v) e (0, 0)) :=
  heap_setCell_same w b i cs e v hb
theorem OwnK.nil (k : Nat) (w : World) (e : TypeId) (F : Nat → Prop) : OwnK k w e (.slice none 0 0) 0 [] F := ⟨World.ownsRow_nil w 0 e k, fun g h => by simp [Value.ownBlock] at h⟩
theorem OwnK.mono {k : Nat} {w : World} {e : TypeId} {v : Value} {n : Nat} {xs : List Value} {F G : Nat → Prop} (h : OwnK k w e v n xs F) (hg : ∀ j, j < w.heap.size → F j → G j) : OwnK k w e v n xs G :=
  ⟨h.1, fun g hv => hg g (h.1.lt g hv).2 (h.2 g hv)⟩
theorem OwnK.shape {k : Nat} {w : World} {e : TypeId} {v : Value} {n : Nat} {xs : List Value} {F : Nat → Prop} (h : OwnK k w e v n xs F) :
    (v = .slice none 0 0 ∧ n = 0) ∨ ∃ g cap cur, v = .slice (some ⟨g, 0, none⟩) n cap ∧ F g ∧ g < w.heap.size ∧ n ≤ cap ∧ cap ≤ maxLen ∧ w.heap[g]? = some (.cells cur e (0, 0)) ∧ cur.size = cap * k ∧ cur.toList.take (n * k) = xs := by
  rcases h.1.2 with ⟨hv, hn⟩ | ⟨g, cap, cur, hv, _, hg, hc, hm, hs, ht⟩
  · exact .inl ⟨hv, hn⟩
  · exact .inr ⟨g, cap, cur, hv, h.2 g (by simp [hv, Value.ownBlock]), (Array.getElem?_eq_some_iff.1 hg).1, hc, hm, hg, hs, ht⟩
theorem OwnK.length {k : Nat} {w : World} {e : TypeId} {v : Value} {n : Nat} {xs : List Value} {F : Nat → Prop} (h : OwnK k w e v n xs F) : xs.length = n * k := h.1.1
theorem OwnK.kept {k : Nat} {w w' : World} {e : TypeId} {v : Value} {n : Nat} {xs : List Value} {F : Nat → Prop} (h : OwnK k w e v n xs F) {G : Nat → Prop} (hk : Kept G w w') (hd : ∀ j, F j → ¬ G j) : OwnK k w' e v n xs F := by
  refine ⟨⟨h.1.1, ?_⟩, h.2⟩
  rcases h.shape with ⟨hv, hx⟩ | ⟨g, cap, cur, hv, hF, hlt, hc, hm, hg, hs, ht⟩
  · exact .inl ⟨hv, hx⟩
  · exact .inr ⟨g, cap, cur, hv, Nat.zero_le _, (hk.block g hlt (hd g hF)).trans hg, hc, hm, hs, ht⟩
theorem OwnK.cell {k : Nat} {w : World} {e : TypeId} {n : Nat} {xs : List Value} {F : Nat → Prop} {g m cap : Nat} (h : OwnK k w e (.slice (some ⟨g, 0, none⟩) m cap) n xs F) (i : Nat) (x : Value) (hx : xs[i]? = some x) : w.cell? ⟨g, i, none⟩ = some x := by
  have := h.1.cells (g := g) rfl i x hx
  rwa [show (⟨g, 0, none⟩ : Addr).add i = ⟨g, i, none⟩ from by unfold Addr.add; split <;> simp_all] at this
theorem OwnK.frozen {k : Nat} {w : World} {e : TypeId} {n : Nat} {xs : List Value} {F : Nat → Prop} {g m cap : Nat} (h : OwnK k w e (.slice (some ⟨g, 0, none⟩) m cap) n xs F) (i : Nat) : w.frozen? ⟨g, i, none⟩ = false := by
  rcases h.shape with ⟨hv, _⟩ | ⟨g', cap', cur, hv, _, _, _, _, hg, _, _⟩
  · simp at hv
  · simp only [Value.slice.injEq, Option.some.injEq, Addr.mk.injEq] at hv
    obtain ⟨⟨rfl, _, _⟩, rfl, rfl⟩ := hv
    simp [World.frozen?, hg]
theorem OwnK.len {k : Nat} {w : World} {e : TypeId} {n : Nat} {xs : List Value} {F : Nat → Prop} {a : Option Addr} {m cap : Nat} (h : OwnK k w e (.slice a m cap) n xs F) : m = n := by
  rcases h.shape with ⟨hv, hx⟩ | ⟨g', cap', cur, hv, _⟩
  · simp at hv; simp [hx, hv]
  · simp at hv; exact hv.2.1
theorem OwnK.reads {k : Nat} {w : World} {e : TypeId} {v : Value} {n : Nat} {xs : List Value} {F : Nat → Prop} (h : OwnK k w e v n xs F) : ReadsK k w v n xs F := by
  refine ⟨h.length, ?_⟩
  rcases h.shape with ⟨hv, hx⟩ | ⟨g, cap, cur, hv, hF, hlt, hc, hm, hg, hs, ht⟩
  · exact .inl ⟨hx, none, 0, hv, fun _ => rfl⟩
  · subst hv
    exact .inr ⟨g, 0, cap, rfl, hc, hlt, hF, fun i x hx => by simpa using h.cell i x hx⟩
theorem OwnK.set {k : Nat} {w : World} {e : TypeId} {n : Nat} {xs : List Value} {F : Nat → Prop} {g m cap : Nat} (h : OwnK k w e (.slice (some ⟨g, 0, none⟩) m cap) n xs F) (i : Nat) (u : Value) :
    OwnK k (w.setCell ⟨g, i, none⟩ u) e (.slice (some ⟨g, 0, none⟩) m cap) n (xs.set i u) F := by
  refine ⟨⟨by rw [List.length_set]; exact h.1.1, ?_⟩, h.2⟩
  rcases h.shape with ⟨hv, _⟩ | ⟨g', cap', cur, hv, hF, hlt, hc, hm, hg, hs, ht⟩
  · simp at hv
  · simp only [Value.slice.injEq, Option.some.injEq, Addr.mk.injEq] at hv
    obtain ⟨⟨rfl, _, _⟩, rfl, rfl⟩ := hv
    refine .inr ⟨g, cap, cur.setIfInBounds i u, rfl, Nat.zero_le _, ?_, hc, hm, by simpa using hs, ?_⟩
    · exact heap_setK w g i cur e u hg
    · rw [Array.toList_setIfInBounds, List.take_set, ht]
theorem ReadsK.kept {k : Nat} {w w' : World} {v : Value} {n : Nat} {xs : List Value} {F : Nat → Prop} (h : ReadsK k w v n xs F) {G : Nat → Prop} (hk : Kept G w w') (hd : ∀ j, F j → ¬ G j) : ReadsK k w' v n xs F := by
  refine ⟨h.1, ?_⟩
  rcases h.2 with h | ⟨b, o, cap, hv, hl, hb, hF, hc⟩
  · exact .inl h
  · refine .inr ⟨b, o, cap, hv, hl, Nat.lt_of_lt_of_le hb hk.size, hF, fun i x hx => ?_⟩
    rw [hk.cell hb (hd b hF)]
    exact hc i x hx
theorem ReadsK.mono {k : Nat} {w : World} {v : Value} {n : Nat} {xs : List Value} {F G : Nat → Prop} (h : ReadsK k w v n xs F) (hg : ∀ j, j < w.heap.size → F j → G j) : ReadsK k w v n xs G := by
  refine ⟨h.1, ?_⟩
  rcases h.2 with h | ⟨b, o, cap, hv, hl, hb, hF, hc⟩
  · exact .inl h
  · exact .inr ⟨b, o, cap, hv, hl, hb, hg b hb hF, hc⟩
theorem ReadsK.shape {k : Nat} {w : World} {v : Value} {n : Nat} {xs : List Value} {F : Nat → Prop} (h : ReadsK k w v n xs F) : ∃ a cap, v = .slice a n cap ∧ (a = none ↔ v = .slice none 0 0) := by
  rcases h.2 with ⟨rfl, a, cap, rfl, hn⟩ | ⟨b, o, c, rfl, _⟩
  · refine ⟨a, cap, rfl, fun h => ?_, fun h => ?_⟩
    · rw [h, hn h]
    · simp at h; exact h.1
  · exact ⟨_, c, rfl, by simp⟩
/-- the cells of element i -/
theorem ReadsK.at {k : Nat} {w : World} {a : Option Addr} {m c : Nat} {n : Nat} {xs : List Value} {F : Nat → Prop} (h : ReadsK k w (.slice a m c) n xs F) {i : Nat} (hi : i < n) :
    ∃ b o, a = some ⟨b, o, none⟩ ∧ m = n ∧ b < w.heap.size ∧ F b ∧ ∀ j, j < k → ∃ x, xs[i * k + j]? = some x ∧ w.cell? ⟨b, o + (i * k + j), none⟩ = some x := by
  rcases h.2 with ⟨rfl, _⟩ | ⟨b, o, c', hv, _, hb, hF, hc⟩
  · omega
  · simp at hv
    refine ⟨b, o, hv.1, hv.2.1, hb, hF, fun j hj => ?_⟩
    have hlt : i * k + j < xs.length := by
      rw [h.1]
      have : (i + 1) * k ≤ n * k := Nat.mul_le_mul_right _ hi
      rw [Nat.add_mul, Nat.one_mul] at this
      omega
    exact ⟨_, List.getElem?_eq_getElem hlt, hc _ _ (List.getElem?_eq_getElem hlt)⟩

/-- the facts on a type of structs that append asks for -/
structure PlainK (P : Program) (k : Nat) (t e : TypeId) (z : Value) (bytes : Nat) : Prop where
  sl : P.underlying t = some (.slice e)
  info : ∃ i, P.info? e = some i ∧ i.zero = some z ∧ i.size = k ∧ i.bytes = bytes
  some' : z.cells.size = k
  pos : 0 < k
theorem PlainK.of {P : Program} {k : Nat} {t e : TypeId} {z : Value} {bytes : Nat} (h1 : P.underlying t = some (.slice e)) (h2 : (P.info? e).map (fun i => (i.zero, i.size, i.bytes)) = some (some z, k, bytes)) (h3 : z.cells.size = k) (h4 : 0 < k) : PlainK P k t e z bytes := by
  obtain ⟨i, a, b, c, d⟩ := info_parts h2
  exact ⟨h1, ⟨i, a, b, c, d⟩, h3, h4⟩
section laws
variable {P : Program} {ops : Array Oper} {rest : List Oper} {o : Oper} {a : Act} {Q : Exit → Act → World → Prop} {w : World}

theorem appendK_law {k : Nat} {t e : TypeId} {z : Value} {bytes : Nat} (T : PlainK P k t e z bytes) {v y : Value} {n m : Nat} {xs news : List Value} {F G : Nat → Prop} (hown : OwnK k w e v n xs F) (hr : ReadsK k w y m news G)
    (h1 : ∀ u ∈ news, u.oneCell' = true) (hsz : (n + m) * (bytes + 1) ≤ 140737488355328) (ty : TypeId) :
    ∃ v' w', (Builtin.append_ #[t, t] ty #[v, y]).run P w = .ok v' w' ∧ OwnK k w' e v' (n + m) (xs ++ news) (fun j => v.ownBlock = some j ∨ w.heap.size ≤ j) ∧ Kept (fun j => v.ownBlock = some j) w w' ∧
      (v' = .slice none 0 0 ↔ v = .slice none 0 0 ∧ m = 0) := by
  obtain ⟨i, hi, hz, hs, hb⟩ := T.info
  have hm : n + m ≤ maxLen := by
    unfold maxLen
    have : (n + m) * 1 ≤ (n + m) * (bytes + 1) := Nat.mul_le_mul_left _ (by omega)
    omega
  have hby : (n + m) * bytes ≤ 140737488355328 := Nat.le_trans (Nat.mul_le_mul_left _ (by omega)) hsz
  rcases hr with ⟨hlen, ⟨rfl, ya, yc, rfl, _⟩ | ⟨b, o', cap, rfl, hcap, hblt, hG, hc⟩⟩
  · have hn : news = [] := List.eq_nil_of_length_eq_zero (by simpa using hlen)
    subst hn
    refine ⟨v, w, ?_, ?_, Kept.refl _ _, by simp⟩
    · rcases hown.shape with ⟨rfl, rfl⟩ | ⟨g, cap, cur, rfl, hF, hlt, hc, hm', hg, hcs, ht⟩
      · cases ya <;> simp [Builtin.append_, run_underlying T.sl, sizeOf, typeInfo, hi, Builtin.lenOf, Builtin.firstCells, loadCells, loadCellsFrom]
      · cases ya <;> simp [Builtin.append_, run_underlying T.sl, sizeOf, typeInfo, hi, Builtin.lenOf, Builtin.firstCells, hc, storeCells, loadCells, loadCellsFrom]
    · simp only [List.append_nil, Nat.add_zero]
      exact ⟨hown.1, fun g hg => .inl hg⟩
  · have hnews : ∀ j u, news[j]? = some u → w.cell? ((⟨b, o', none⟩ : Addr).add j) = some u := fun j u hu => by
      rw [show (⟨b, o', none⟩ : Addr).add j = ⟨b, o' + j, none⟩ from by unfold Addr.add; split <;> simp_all]
      exact hc j u hu
    obtain ⟨v', w', hrun, h2, h3, h4⟩ := run_append_own (P := P) w 0 t ty e i z k bytes T.sl hi hz hs hb T.some' T.pos v n xs hown.1 ⟨b, o', none⟩ m cap news hlen hnews h1 hm hby (Nat.zero_le _)
    refine ⟨v', w', hrun, ⟨h2, fun g hg => ?_⟩, (Kept.grown h3).mono fun x _ h => h.symm ▸ rfl, h4⟩
    by_cases hlt : g < w.heap.size
    · by_cases he : v.ownBlock = some g
      · exact .inl he
      · -- an old block that is not the row's own can't be the new row: the new row's block is the old one, or new
        exfalso
        rcases hown.shape with ⟨rfl, rfl⟩ | ⟨g0, cap0, cur0, rfl, _⟩
        · by_cases h0 : m = 0
          · subst h0
            have hn : news = [] := List.eq_nil_of_length_eq_zero (by simpa using hlen)
            subst hn
            have hrun2 : (Builtin.append_ #[t, t] ty #[.slice none 0 0, .slice (some ⟨b, o', none⟩) 0 cap]).run P w = .ok (.slice none 0 0) w := by
              simp [Builtin.append_, run_underlying T.sl, sizeOf, typeInfo, hi, Builtin.lenOf, Builtin.firstCells, loadCells, loadCellsFrom]
            rw [hrun2] at hrun
            injection hrun with e1 e2
            rw [← e1] at hg
            simp [Value.ownBlock] at hg
          · have hx : xs = [] := List.eq_nil_of_length_eq_zero (by have := hown.length; simpa using this)
            subst hx
            have hr := run_append_nil (P := P) w t ty e i z T.sl hi hz ⟨b, o', none⟩ m cap news (by rw [hs]; exact hlen) hnews (by omega) (by simp only [maxLen] at hm; omega) (by rw [hb]; simp only [Nat.zero_add] at hby; omega)
            rw [hr] at hrun
            injection hrun with e1 e2
            rw [← e1] at hg
            simp [Value.ownBlock] at hg
            omega
        · by_cases hroom : n + m ≤ cap0
          · obtain ⟨g', cap', cur, hv, hF', hlt', hc', hm', hg', hcs, ht⟩ := hown.shape.resolve_left (by rintro ⟨h, _⟩; cases h)
            simp only [Value.slice.injEq, Option.some.injEq, Addr.mk.injEq, and_true, true_and] at hv
            obtain ⟨rfl, rfl⟩ := hv
            have hfit : n * i.size + news.length ≤ cur.size := by rw [hs, hlen, hcs, ← Nat.add_mul]; exact Nat.mul_le_mul_right _ hroom
            have hr := run_append_room (P := P) w t ty e i T.sl hi g0 n cap0 cur hg' ⟨b, o', none⟩ m cap news (by rw [hs]; exact hlen) hnews h1 hroom hfit
            rw [hr] at hrun
            injection hrun with e1 e2
            rw [← e1] at hg
            simp [Value.ownBlock] at hg
            exact he (by simp [Value.ownBlock, hg])
          · have holds : ∀ j u, xs[j]? = some u → w.cell? ((⟨g0, 0, none⟩ : Addr).add j) = some u := hown.1.cells (g := g0) rfl
            have hr := run_append_grow (P := P) w t ty e i z T.sl hi hz ⟨g0, 0, none⟩ n cap0 xs (by rw [hs]; exact hown.length) holds ⟨b, o', none⟩ m cap news (by rw [hs]; exact hlen) hnews (by omega) (by simp only [maxLen] at hm; omega) (by rw [hb]; exact growslice_fits (by omega) hby)
            rw [hr] at hrun
            injection hrun with e1 e2
            rw [← e1] at hg
            simp [Value.ownBlock] at hg
            omega
    · exact .inr (by omega)

/-- append(s, x...) as a step of the walk -/
theorem wpList_appendK (hgd : o.guard = none) (s x : Operand) (t : TypeId) (ho : o.op = .call { callee := .builtin .append, args := #[s, x], argTypes := #[t, t] })
    {k : Nat} {e : TypeId} {z : Value} {bytes : Nat} (T : PlainK P k t e z bytes) (v y : Value) (n m : Nat) (xs news : List Value) (F G : Nat → Prop) (hs : a.eval s = v) (hx : a.eval x = y) (hown : OwnK k w e v n xs F) (hr : ReadsK k w y m news G)
    (h1 : ∀ u ∈ news, u.oneCell' = true) (hsz : (n + m) * (bytes + 1) ≤ 140737488355328)
    (h : ∀ (b : Option Addr) (cap : Nat) (w' : World), OwnK k w' e (.slice b (n + m) cap) (n + m) (xs ++ news) (fun j => v.ownBlock = some j ∨ w.heap.size ≤ j) → Kept (fun j => v.ownBlock = some j) w w' →
      (Value.slice b (n + m) cap = .slice none 0 0 ↔ v = .slice none 0 0 ∧ m = 0) → wpList P ops Q rest (a.put o.dst (.slice b (n + m) cap)) w') : wpList P ops Q (o :: rest) a w := by
  refine wpList_plain hgd fun K hK => ?_
  obtain ⟨v', w', hrun, h2, h3, h4⟩ := appendK_law T hown hr h1 hsz o.type
  have hsh : ∃ b cap, v' = .slice b (n + m) cap := by
    rcases h2.shape with ⟨rfl, hx⟩ | ⟨g, cap, cur, rfl, _⟩
    · exact ⟨none, 0, by rw [hx]⟩
    · exact ⟨_, cap, rfl⟩
  obtain ⟨b, cap, rfl⟩ := hsh
  unfold Oper.wp execOp
  simp only [ho, resolve, invoke, builtin, Sem.run_bind, Sem.run_pure, Result.andThen_ok, List.map_toArray, List.map_cons, List.map_nil, hs, hx, hrun]
  exact hK _ _ (h b cap w' h2 h3 h4)
/-- append(s, x): one element, in a block of its own -/
theorem wpList_append1K (hgd : o.guard = none) (s x : Operand) (t : TypeId) (ho : o.op = .call { callee := .builtin .append, args := #[s, x], argTypes := #[t, t] })
    {k : Nat} {e : TypeId} {z : Value} {bytes : Nat} (T : PlainK P k t e z bytes) (v : Value) (n : Nat) (xs us : List Value) (F : Nat → Prop) (bb oo c : Nat) (hs : a.eval s = v) (hx : a.eval x = .slice (some ⟨bb, oo, none⟩) 1 c) (hown : OwnK k w e v n xs F)
    (hul : us.length = k) (hc : ∀ i u, us[i]? = some u → w.cell? ⟨bb, oo + i, none⟩ = some u)
    (hc1 : 1 ≤ c) (h1 : ∀ u ∈ us, u.oneCell' = true) (hsz : (n + 1) * (bytes + 1) ≤ 140737488355328)
    (h : ∀ (g : Nat) (cap : Nat) (w' : World), OwnK k w' e (.slice (some ⟨g, 0, none⟩) (n + 1) cap) (n + 1) (xs ++ us) (fun j => v.ownBlock = some j ∨ w.heap.size ≤ j) → Kept (fun j => v.ownBlock = some j) w w' →
      wpList P ops Q rest (a.put o.dst (.slice (some ⟨g, 0, none⟩) (n + 1) cap)) w') : wpList P ops Q (o :: rest) a w := by
  have hpos := T.pos
  have hbb : bb < w.heap.size := by
    obtain ⟨u, hu⟩ : ∃ u, us[0]? = some u := ⟨us[0], List.getElem?_eq_getElem (by omega)⟩
    exact cell_lt (hc 0 u hu)
  refine wpList_appendK hgd s x t ho T v _ n 1 xs us F (fun _ => True) hs hx hown ⟨by rw [hul, Nat.one_mul], .inr ⟨bb, oo, c, rfl, hc1, hbb, trivial, hc⟩⟩ h1 hsz fun b cap w' h2 h3 h4 => ?_
  rcases h2.shape with ⟨hv, hx⟩ | ⟨g, cap', cur, hv, _⟩
  · simp at hx
  · simp only [Value.slice.injEq] at hv
    obtain ⟨rfl, _, rfl⟩ := hv
    exact h g cap w' h2 h3
/-- append as one step of a region that draws its order -/
theorem step_append1K {E : Prop} {K : Act → World → Prop} (hgd : o.guard = none) (s x : Operand) (t : TypeId) (ho : o.op = .call { callee := .builtin .append, args := #[s, x], argTypes := #[t, t] })
    {k : Nat} {e : TypeId} {z : Value} {bytes : Nat} (T : PlainK P k t e z bytes) (v : Value) (n : Nat) (xs us : List Value) (F : Nat → Prop) (bb oo c : Nat) (hs : a.eval s = v) (hx : a.eval x = .slice (some ⟨bb, oo, none⟩) 1 c) (hown : OwnK k w e v n xs F)
    (hul : us.length = k) (hc : ∀ i u, us[i]? = some u → w.cell? ⟨bb, oo + i, none⟩ = some u)
    (hc1 : 1 ≤ c) (h1 : ∀ u ∈ us, u.oneCell' = true) (hsz : (n + 1) * (bytes + 1) ≤ 140737488355328)
    (h : ∀ (g : Nat) (cap : Nat) (w' : World), OwnK k w' e (.slice (some ⟨g, 0, none⟩) (n + 1) cap) (n + 1) (xs ++ us) (fun j => v.ownBlock = some j ∨ w.heap.size ≤ j) → Kept (fun j => v.ownBlock = some j) w w' →
      K (a.put o.dst (.slice (some ⟨g, 0, none⟩) (n + 1) cap)) w') : if Region.wanted o (yielded ops a.tmps) = true then Oper.wp P o a w K Q else E := by
  have hw : Region.wanted o (yielded ops a.tmps) = true := by simp [Region.wanted, hgd]
  rw [if_pos hw]
  have hpos := T.pos
  have hbb : bb < w.heap.size := by
    obtain ⟨u, hu⟩ : ∃ u, us[0]? = some u := ⟨us[0], List.getElem?_eq_getElem (by omega)⟩
    exact cell_lt (hc 0 u hu)
  obtain ⟨v', w', hrun, h2, h3, h4⟩ := appendK_law T hown (y := .slice (some ⟨bb, oo, none⟩) 1 c) (m := 1) (news := us) (G := fun _ => True) ⟨by rw [hul, Nat.one_mul], .inr ⟨bb, oo, c, rfl, hc1, hbb, trivial, hc⟩⟩ h1 hsz o.type
  have hsh : ∃ g cap, v' = .slice (some ⟨g, 0, none⟩) (n + 1) cap := by
    rcases h2.shape with ⟨_, hx⟩ | ⟨g, cap, cur, rfl, _⟩
    · simp at hx
    · exact ⟨g, cap, rfl⟩
  obtain ⟨g, cap, rfl⟩ := hsh
  unfold Oper.wp execOp
  simp only [ho, resolve, invoke, builtin, Sem.run_bind, Sem.run_pure, Result.andThen_ok, List.map_toArray, List.map_cons, List.map_nil, hs, hx, hrun]
  exact h g cap w' h2 h3
end laws
theorem OwnK.alloc {k : Nat} {w : World} {e : TypeId} {v : Value} {n : Nat} {xs : List Value} {F : Nat → Prop} (h : OwnK k w e v n xs F) (o : Obj) : OwnK k (w.alloc o) e v n xs F := h.kept (Kept.alloc Nob w o) (fun _ _ f => f)
theorem ReadsK.alloc {k : Nat} {w : World} {v : Value} {n : Nat} {xs : List Value} {F : Nat → Prop} (h : ReadsK k w v n xs F) (o : Obj) : ReadsK k (w.alloc o) v n xs F := h.kept (Kept.alloc Nob w o) (fun _ _ f => f)
theorem OwnK.blockLt {k : Nat} {w : World} {e : TypeId} {v : Value} {n : Nat} {xs : List Value} {F : Nat → Prop} (h : OwnK k w e v n xs F) {g : Nat} (hg : v.ownBlock = some g) : g < w.heap.size := (h.1.lt g hg).2
/-- a row without elements, in a block of its own -/
theorem OwnK.empty_new {k : Nat} (w : World) (e : TypeId) : OwnK k (w.alloc (.cells #[] e)) e (.slice (some ⟨w.heap.size, 0, none⟩) 0 0) 0 [] (From w.heap.size) :=
  ⟨World.ownsRow_made w #[] 0 (Nat.zero_le _) (Nat.zero_le _) (by simp), fun g hg => by simp [Value.ownBlock] at hg; show _ ≤ _; omega⟩
end Go.Proofs.YthjiobmglebmdaaGreatDoor
