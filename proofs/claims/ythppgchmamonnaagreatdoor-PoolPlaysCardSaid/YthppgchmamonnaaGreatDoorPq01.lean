/- Base words for the proofs over this program: which blocks a step may turn (Kept), rows that a call owns (Own), rows that are read (Reads). No program in sight. -/
import Derived.Below
import Derived.BigQuiet
import Derived.Deep.DeepFit
import Derived.Deep.DeepMust
import Derived.Deep.LoopGhost
import Derived.Deep.QuietTactic
import Derived.Deep.RegionHeld3
import Derived.Laws.CopyOwn
import Derived.Laws.MakeOwn
import Derived.Lib.Hide
import Derived.Outline
import Derived.OwnWalk
import Derived.WalkKit
import Derived.WalkSpells
namespace Go.Proofs.YthppgchmamonnaaGreatDoor
open Go.RowKit
structure Kept (F : Nat → Prop) (w w' : World) : Prop where
  os : w'.os = w.os
  tape : w'.tape = w.tape
  output : w'.output = w.output
  size : w.heap.size ≤ w'.heap.size
  block : ∀ k, k < w.heap.size → ¬ F k → w'.heap[k]? = w.heap[k]?
def Nob : Nat → Prop := fun _ => False
def Just (b : Nat) : Nat → Prop := fun k => k = b
def From (b : Nat) : Nat → Prop := fun k => b ≤ k
def Por (F G : Nat → Prop) : Nat → Prop := fun k => F k ∨ G k
def Disj (F G : Nat → Prop) : Prop := ∀ k, F k → ¬ G k
def Under (F : Nat → Prop) (n : Nat) : Prop := ∀ k, F k → k < n
def Grows (F : Nat → Prop) (n : Nat) (F' : Nat → Prop) : Prop := ∀ k, F' k → F k ∨ n ≤ k
theorem Kept.refl (F : Nat → Prop) (w : World) : Kept F w w := ⟨rfl, rfl, rfl, Nat.le_refl _, fun _ _ _ => rfl⟩
theorem Kept.trans {F G : Nat → Prop} {a b c : World} (h : Kept F a b) (k : Kept G b c) (hg : ∀ x, x < a.heap.size → G x → F x) : Kept F a c :=
  ⟨k.os.trans h.os, k.tape.trans h.tape, k.output.trans h.output, Nat.le_trans h.size k.size, fun i hi hF =>
    (k.block i (Nat.lt_of_lt_of_le hi h.size) (fun g => hF (hg i hi g))).trans (h.block i hi hF)⟩
theorem Kept.mono {F G : Nat → Prop} {a b : World} (h : Kept F a b) (hg : ∀ x, x < a.heap.size → F x → G x) : Kept G a b :=
  ⟨h.os, h.tape, h.output, h.size, fun i hi hG => h.block i hi (fun f => hG (hg i hi f))⟩
theorem Kept.nob {G : Nat → Prop} {a b : World} (h : Kept Nob a b) : Kept G a b := h.mono (fun _ _ f => f.elim)
theorem Kept.from {G : Nat → Prop} {a b c : World} (h : Kept G a b) {n : Nat} (hn : a.heap.size ≤ n) (k : Kept (From n) b c) : Kept G a c :=
  h.trans k (fun _ hx hf => absurd (Nat.lt_of_lt_of_le hx hn) (Nat.not_lt.2 hf))
theorem Kept.trans' {F : Nat → Prop} {a b c : World} (h : Kept F a b) (k : Kept F b c) : Kept F a c := h.trans k (fun _ _ g => g)
theorem Kept.then {F : Nat → Prop} {a b c : World} (h : Kept F a b) (k : Kept Nob b c) : Kept F a c := h.trans k (fun _ _ g => g.elim)
theorem Kept.alloc (F : Nat → Prop) (w : World) (o : Obj) : Kept F w (w.alloc o) := ⟨rfl, rfl, rfl, by simp, fun k hk _ => Below.heap_alloc w o k hk⟩
theorem Kept.drew (F : Nat → Prop) (w : World) : Kept F w w.drew := ⟨rfl, rfl, rfl, Nat.le_refl _, fun _ _ _ => rfl⟩
theorem Kept.drewN (F : Nat → Prop) (w : World) (n : Nat) : Kept F w (w.drewN n) := ⟨rfl, rfl, rfl, Nat.le_refl _, fun _ _ _ => rfl⟩
theorem Kept.setCell {F : Nat → Prop} (w : World) (a : Addr) (v : Value) (hF : F a.block) : Kept F w (w.setCell a v) :=
  ⟨rfl, rfl, rfl, by simp [World.setCell], fun k _ hk => Below.heap_setCell w a v k (fun e => hk (e ▸ hF))⟩
theorem Kept.grown {w w' : World} {row : Option Nat} (h : w.grownBy w' row) : Kept (fun k => row = some k) w w' :=
  ⟨h.os, h.tape, h.output, h.size, fun k hk hn => h.block k hk (fun e => hn e.symm)⟩
theorem Kept.grown_none {w w' : World} (h : w.grownBy w' none) : Kept Nob w w' :=
  ⟨h.os, h.tape, h.output, h.size, fun k hk _ => h.block k hk (fun e => by cases e)⟩
theorem Kept.of_below {B : Nat} {w w' : World} (h : Below B w w') : Kept (From B) w w' :=
  ⟨h.os, h.tape, h.output, h.size, fun k _ hn => h.block k (Nat.lt_of_not_le hn)⟩
theorem Kept.cell {F : Nat → Prop} {w w' : World} (h : Kept F w w') {p : Addr} (hp : p.block < w.heap.size) (hF : ¬ F p.block) : w'.cell? p = w.cell? p :=
  World.cell?_of_block (w := w) (h.block p.block hp hF)
theorem Kept.frozen {F : Nat → Prop} {w w' : World} (h : Kept F w w') {p : Addr} (hp : p.block < w.heap.size) (hF : ¬ F p.block) : w'.frozen? p = w.frozen? p :=
  World.frozen?_of_block (w := w) (h.block p.block hp hF)
theorem cell_lt {w : World} {a : Addr} {v : Value} (h : w.cell? a = some v) : a.block < w.heap.size := World.block_lt_of_cell? w a h
theorem Grows.refl (F : Nat → Prop) (n : Nat) : Grows F n F := fun _ h => .inl h
theorem Grows.trans {F G H : Nat → Prop} {n m : Nat} (h : Grows F n G) (k : Grows G m H) (hm : n ≤ m) : Grows F n H := fun x hx => by
  rcases k x hx with g | g
  · exact h x g
  · exact .inr (Nat.le_trans hm g)
theorem Disj.grows {F G F' : Nat → Prop} {n : Nat} (h : Disj F G) (hg : Grows F n F') (hG : Under G n) : Disj F' G := fun k hk hG' => by
  rcases hg k hk with f | f
  · exact h k f hG'
  · have := hG k hG'; omega
theorem Disj.symm {F G : Nat → Prop} (h : Disj F G) : Disj G F := fun k g f => h k f g
theorem Under.mono {F : Nat → Prop} {n m : Nat} (h : Under F n) (hm : n ≤ m) : Under F m := fun k hk => Nat.lt_of_lt_of_le (h k hk) hm
def IsByte (u : Value) : Prop := ∃ n : Int, u = .int .u8 n
theorem IsByte.one {u : Value} (h : IsByte u) : u.oneCell' = true := by obtain ⟨n, rfl⟩ := h; rfl
def Own (w : World) (e : TypeId) (v : Value) (xs : List Value) (F : Nat → Prop) : Prop :=
  w.ownsRow 0 e 1 v xs.length xs ∧ ∀ g, v.ownBlock = some g → F g
def Reads (w : World) (v : Value) (xs : List Value) (F : Nat → Prop) : Prop :=
  (xs = [] ∧ ∃ a cap, v = .slice a 0 cap ∧ (a = none → cap = 0)) ∨
  ∃ b o cap, v = .slice (some ⟨b, o, none⟩) xs.length cap ∧ xs.length ≤ cap ∧ b < w.heap.size ∧ F b ∧ ∀ i x, xs[i]? = some x → w.cell? ⟨b, o + i, none⟩ = some x
theorem Own.nil (w : World) (e : TypeId) (F : Nat → Prop) : Own w e (.slice none 0 0) [] F := ⟨World.ownsRow_nil w 0 e 1, fun g h => by simp [Value.ownBlock] at h⟩
theorem Own.mono {w : World} {e : TypeId} {v : Value} {xs : List Value} {F G : Nat → Prop} (h : Own w e v xs F) (hg : ∀ k, k < w.heap.size → F k → G k) : Own w e v xs G :=
  ⟨h.1, fun g hv => hg g (h.1.lt g hv).2 (h.2 g hv)⟩
theorem Own.shape {w : World} {e : TypeId} {v : Value} {xs : List Value} {F : Nat → Prop} (h : Own w e v xs F) :
    (v = .slice none 0 0 ∧ xs = []) ∨ ∃ g cap cur, v = .slice (some ⟨g, 0, none⟩) xs.length cap ∧ F g ∧ g < w.heap.size ∧ xs.length ≤ cap ∧ cap ≤ maxLen ∧ w.heap[g]? = some (.cells cur e (0, 0)) ∧ cur.size = cap ∧ cur.toList.take xs.length = xs := by
  rcases h.1.2 with ⟨hv, hn⟩ | ⟨g, cap, cur, hv, _, hg, hc, hm, hs, ht⟩
  · exact .inl ⟨hv, List.eq_nil_of_length_eq_zero hn⟩
  · refine .inr ⟨g, cap, cur, hv, h.2 g (by simp [hv, Value.ownBlock]), (Array.getElem?_eq_some_iff.1 hg).1, hc, hm, hg, by simpa using hs, by simpa using ht⟩
theorem Own.kept {w w' : World} {e : TypeId} {v : Value} {xs : List Value} {F : Nat → Prop} (h : Own w e v xs F) {G : Nat → Prop} (hk : Kept G w w') (hd : ∀ k, F k → ¬ G k) : Own w' e v xs F := by
  refine ⟨⟨h.1.1, ?_⟩, h.2⟩
  rcases h.shape with ⟨hv, hx⟩ | ⟨g, cap, cur, hv, hF, hlt, hc, hm, hg, hs, ht⟩
  · exact .inl ⟨hv, by simp [hx]⟩
  · exact .inr ⟨g, cap, cur, hv, Nat.zero_le _, (hk.block g hlt (hd g hF)).trans hg, hc, hm, by simpa using hs, by simpa using ht⟩
theorem Own.cell {w : World} {e : TypeId} {xs : List Value} {F : Nat → Prop} {g n cap : Nat} (h : Own w e (.slice (some ⟨g, 0, none⟩) n cap) xs F) (i : Nat) (x : Value) (hx : xs[i]? = some x) : w.cell? ⟨g, i, none⟩ = some x := by
  have := h.1.cells (g := g) rfl i x hx
  rwa [show (⟨g, 0, none⟩ : Addr).add i = ⟨g, i, none⟩ from by unfold Addr.add; split <;> simp_all] at this
theorem Own.frozen {w : World} {e : TypeId} {xs : List Value} {F : Nat → Prop} {g n cap : Nat} (h : Own w e (.slice (some ⟨g, 0, none⟩) n cap) xs F) (i : Nat) : w.frozen? ⟨g, i, none⟩ = false := by
  rcases h.shape with ⟨hv, _⟩ | ⟨g', cap', cur, hv, _, _, _, _, hg, _, _⟩
  · simp at hv
  · simp only [Value.slice.injEq, Option.some.injEq, Addr.mk.injEq] at hv
    obtain ⟨⟨rfl, _, _⟩, rfl, rfl⟩ := hv
    simp [World.frozen?, hg]
theorem Own.len {w : World} {e : TypeId} {xs : List Value} {F : Nat → Prop} {a : Option Addr} {n cap : Nat} (h : Own w e (.slice a n cap) xs F) : n = xs.length := by
  rcases h.shape with ⟨hv, hx⟩ | ⟨g', cap', cur, hv, _⟩
  · simp at hv; simp [hx, hv]
  · simp at hv; exact hv.2.1
theorem Own.reads {w : World} {e : TypeId} {v : Value} {xs : List Value} {F : Nat → Prop} (h : Own w e v xs F) : Reads w v xs F := by
  rcases h.shape with ⟨hv, hx⟩ | ⟨g, cap, cur, hv, hF, hlt, hc, hm, hg, hs, ht⟩
  · exact .inl ⟨hx, none, 0, hv, fun _ => rfl⟩
  · subst hv
    exact .inr ⟨g, 0, cap, rfl, hc, hlt, hF, fun i x hx => by simpa using h.cell i x hx⟩
theorem Own.set {w : World} {e : TypeId} {xs : List Value} {F : Nat → Prop} {g n cap : Nat} (h : Own w e (.slice (some ⟨g, 0, none⟩) n cap) xs F) (i : Nat) (u : Value) :
    Own (w.setCell ⟨g, i, none⟩ u) e (.slice (some ⟨g, 0, none⟩) n cap) (xs.set i u) F := by
  have hn := h.len
  subst hn
  have := h.1.stored i u
  exact ⟨by simpa using this.1, h.2⟩
theorem Reads.kept {w w' : World} {v : Value} {xs : List Value} {F : Nat → Prop} (h : Reads w v xs F) {G : Nat → Prop} (hk : Kept G w w') (hd : ∀ k, F k → ¬ G k) : Reads w' v xs F := by
  rcases h with h | ⟨b, o, cap, hv, hl, hb, hF, hc⟩
  · exact .inl h
  · refine .inr ⟨b, o, cap, hv, hl, Nat.lt_of_lt_of_le hb hk.size, hF, fun i x hx => ?_⟩
    rw [hk.cell hb (hd b hF)]
    exact hc i x hx
theorem Reads.mono {w : World} {v : Value} {xs : List Value} {F G : Nat → Prop} (h : Reads w v xs F) (hg : ∀ k, k < w.heap.size → F k → G k) : Reads w v xs G := by
  rcases h with h | ⟨b, o, cap, hv, hl, hb, hF, hc⟩
  · exact .inl h
  · exact .inr ⟨b, o, cap, hv, hl, hb, hg b hb hF, hc⟩
theorem Reads.len {w : World} {xs : List Value} {F : Nat → Prop} {a : Option Addr} {n cap : Nat} (h : Reads w (.slice a n cap) xs F) : n = xs.length := by
  rcases h with ⟨hx, _, _, hv, _⟩ | ⟨b, o, c, hv, _⟩
  · simp at hv; simp [hx, hv]
  · simp at hv; exact hv.2.1
theorem Reads.shape {w : World} {v : Value} {xs : List Value} {F : Nat → Prop} (h : Reads w v xs F) : ∃ a cap, v = .slice a xs.length cap ∧ (a = none ↔ v = .slice none 0 0) := by
  rcases h with ⟨rfl, a, cap, rfl, hn⟩ | ⟨b, o, c, rfl, _⟩
  · refine ⟨a, cap, rfl, fun h => ?_, fun h => ?_⟩
    · rw [h, hn h]
    · simp at h; exact h.1
  · exact ⟨_, c, rfl, by simp⟩
structure Plain (P : Program) (t e : TypeId) (z : Value) (bytes : Nat) : Prop where
  sl : P.underlying t = some (.slice e)
  info : ∃ i, P.info? e = some i ∧ i.zero = some z ∧ i.size = 1 ∧ i.bytes = bytes
  one : z.cells.size = 1
theorem Plain.of {P : Program} {t e : TypeId} {z : Value} {bytes : Nat} (h1 : P.underlying t = some (.slice e)) (h2 : (P.info? e).map (fun i => (i.zero, i.size, i.bytes)) = some (some z, 1, bytes)) (h3 : z.cells.size = 1) : Plain P t e z bytes := by
  obtain ⟨i, a, b, c, d⟩ := info_parts h2
  exact ⟨h1, ⟨i, a, b, c, d⟩, h3⟩
section laws
variable {P : Program} {ops : Array Oper} {rest : List Oper} {o : Oper} {a : Act} {Q : Exit → Act → World → Prop} {w : World}
theorem append_law {t e : TypeId} {z : Value} {bytes : Nat} (T : Plain P t e z bytes) {v y : Value} {xs news : List Value} {F G : Nat → Prop} (hown : Own w e v xs F) (hr : Reads w y news G)
    (h1 : ∀ u ∈ news, u.oneCell' = true) (hsz : (xs.length + news.length) * (bytes + 1) ≤ 140737488355328) (ty : TypeId) :
    ∃ v' w', (Builtin.append_ #[t, t] ty #[v, y]).run P w = .ok v' w' ∧ Own w' e v' (xs ++ news) (fun k => v.ownBlock = some k ∨ w.heap.size ≤ k) ∧ Kept (fun k => v.ownBlock = some k) w w' ∧
      (v' = .slice none 0 0 ↔ v = .slice none 0 0 ∧ news = []) := by
  obtain ⟨i, hi, hz, hs, hb⟩ := T.info
  have hm : xs.length + news.length ≤ maxLen := by
    unfold maxLen
    have : (xs.length + news.length) * 1 ≤ (xs.length + news.length) * (bytes + 1) := Nat.mul_le_mul_left _ (by omega)
    omega
  have hby : (xs.length + news.length) * bytes ≤ 140737488355328 := Nat.le_trans (Nat.mul_le_mul_left _ (by omega)) hsz
  rcases hr with ⟨rfl, ya, yc, rfl, _⟩ | ⟨b, o, cap, rfl, hcap, hblt, hG, hc⟩
  · -- nothing is appended
    refine ⟨v, w, ?_, ?_, Kept.refl _ _, by simp⟩
    · rcases hown.shape with ⟨rfl, rfl⟩ | ⟨g, cap, cur, rfl, hF, hlt, hc, hm', hg, hcs, ht⟩
      · cases ya <;> simp [Builtin.append_, run_underlying T.sl, sizeOf, typeInfo, hi, Builtin.lenOf, Builtin.firstCells, loadCells, loadCellsFrom]
      · cases ya <;> simp [Builtin.append_, run_underlying T.sl, sizeOf, typeInfo, hi, Builtin.lenOf, Builtin.firstCells, hc, storeCells, loadCells, loadCellsFrom]
    · simp only [List.append_nil]
      exact ⟨hown.1, fun g hg => .inl hg⟩
  · have hnews : ∀ j u, news[j]? = some u → w.cell? ((⟨b, o, none⟩ : Addr).add j) = some u := fun j u hu => by
      rw [show (⟨b, o, none⟩ : Addr).add j = ⟨b, o + j, none⟩ from by unfold Addr.add; split <;> simp_all]
      exact hc j u hu
    have grown : ∀ old, old < xs.length + news.length →
        Own (w.drew.alloc (.cells (xs.toArray ++ news.toArray ++ Builtin.zeroCells z.cells (grownCap w (xs.length + news.length) old e - (xs.length + news.length))) e)) e
          (.slice (some ⟨w.heap.size, 0, none⟩) (xs.length + news.length) (grownCap w (xs.length + news.length) old e)) (xs ++ news) (fun k => v.ownBlock = some k ∨ w.heap.size ≤ k) ∧
        Kept (fun k => v.ownBlock = some k) w (w.drew.alloc (.cells (xs.toArray ++ news.toArray ++ Builtin.zeroCells z.cells (grownCap w (xs.length + news.length) old e - (xs.length + news.length))) e)) := by
      intro old ho
      have hge := grownCap_ge w (xs.length + news.length) old e
      have hcm : grownCap w (xs.length + news.length) old e ≤ maxLen := grownCap_le_maxLen w _ old e hm
      refine ⟨⟨⟨by simp, .inr ⟨w.heap.size, _, _, by simp, Nat.zero_le _, heap_alloc_new w.drew _, by simpa using hge, hcm, ?_, ?_⟩⟩, fun g hg => ?_⟩, (Kept.drew _ w).trans' (Kept.alloc _ _ _)⟩
      · simp only [Array.size_append, List.size_toArray, size_zeroCells, T.one]
        omega
      · simp only [Array.toList_append, Nat.mul_one]
        exact List.take_left' (by simp)
      · simp [Value.ownBlock] at hg
        exact .inr (by omega)
    rcases hown.shape with ⟨rfl, rfl⟩ | ⟨g, cap', cur, rfl, hF, hlt, hc', hm', hg, hcs, ht⟩
    · by_cases h0 : news.length = 0
      · obtain rfl := List.eq_nil_of_length_eq_zero h0
        refine ⟨.slice none 0 0, w, ?_, Own.nil _ _ _, Kept.refl _ _, by simp⟩
        simp [Builtin.append_, run_underlying T.sl, sizeOf, typeInfo, hi, Builtin.lenOf, Builtin.firstCells, loadCells, loadCellsFrom]
      · have hrun := run_append_nil (P := P) w t ty e i z T.sl hi hz ⟨b, o, none⟩ news.length cap news (by simp [hs]) hnews (by omega) (by simp only [maxLen, List.length_nil] at hm; omega) (by rw [hb]; simp only [List.length_nil, Nat.zero_add] at hby; omega)
        have hgr := grown 0 (by simp; omega)
        simp only [List.length_nil, Nat.zero_add, List.nil_append, Array.empty_append] at hgr ⊢
        exact ⟨_, _, hrun, hgr.1, hgr.2, by simp; exact fun h => h0 (by simp [h])⟩
    · by_cases hroom : xs.length + news.length ≤ cap'
      · have hrun := run_append_room (P := P) w t ty e i T.sl hi g xs.length cap' cur hg ⟨b, o, none⟩ news.length cap news (by simp [hs]) hnews h1 hroom (by rw [hs]; omega)
        refine ⟨_, _, hrun, ⟨⟨by simp, .inr ⟨g, cap', _, by simp, Nat.zero_le _, setRow_heap w g cur _ e _ hg, by simpa using hroom, hm', ?_, ?_⟩⟩, fun k hk => .inl hk⟩, ?_, by simp⟩
        · have := Array.length_toList (xs := cur)
          simp only [List.size_toArray, List.length_append, List.length_take, List.length_drop, hs, Nat.mul_one]
          omega
        · simp only [hs, Nat.mul_one, ht]
          exact List.take_left' (by simp)
        · exact ⟨rfl, rfl, rfl, by simp [World.setRow], fun k _ hk => setRow_other w g k _ (fun e => hk (by simp [Value.ownBlock, e]))⟩
      · have holds : ∀ j u, xs[j]? = some u → w.cell? ((⟨g, 0, none⟩ : Addr).add j) = some u := hown.1.cells (g := g) rfl
        have hrun := run_append_grow (P := P) w t ty e i z T.sl hi hz ⟨g, 0, none⟩ xs.length cap' xs (by simp [hs]) holds ⟨b, o, none⟩ news.length cap news (by simp [hs]) hnews (by omega) (by simp only [maxLen] at hm; omega) (by rw [hb]; exact growslice_fits (by omega) hby)
        have hgr := grown cap' (by omega)
        exact ⟨_, _, hrun, hgr.1, hgr.2, by simp⟩
theorem wpList_append_pg (hgd : o.guard = none) (s x : Operand) (t : TypeId) (ho : o.op = .call { callee := .builtin .append, args := #[s, x], argTypes := #[t, t] })
    {e : TypeId} {z : Value} {bytes : Nat} (T : Plain P t e z bytes) (v y : Value) (xs news : List Value) (F G : Nat → Prop) (hs : a.eval s = v) (hx : a.eval x = y) (hown : Own w e v xs F) (hr : Reads w y news G)
    (h1 : ∀ u ∈ news, u.oneCell' = true) (hsz : (xs.length + news.length) * (bytes + 1) ≤ 140737488355328)
    (h : ∀ (b : Option Addr) (cap : Nat) (w' : World), Own w' e (.slice b (xs.length + news.length) cap) (xs ++ news) (fun k => v.ownBlock = some k ∨ w.heap.size ≤ k) → Kept (fun k => v.ownBlock = some k) w w' →
      (Value.slice b (xs.length + news.length) cap = .slice none 0 0 ↔ v = .slice none 0 0 ∧ news = []) → wpList P ops Q rest (a.put o.dst (.slice b (xs.length + news.length) cap)) w') : wpList P ops Q (o :: rest) a w := by
  refine wpList_plain hgd fun K hK => ?_
  obtain ⟨v', w', hrun, h2, h3, h4⟩ := append_law T hown hr h1 hsz o.type
  have hsh : ∃ b cap, v' = .slice b (xs.length + news.length) cap := by
    rcases h2.shape with ⟨rfl, hx⟩ | ⟨g, cap, cur, rfl, _⟩
    · exact ⟨none, 0, by rw [← List.length_append, hx]; rfl⟩
    · exact ⟨_, cap, by rw [List.length_append]⟩
  obtain ⟨b, cap, rfl⟩ := hsh
  unfold Oper.wp execOp
  simp only [ho, resolve, invoke, builtin, Sem.run_bind, Sem.run_pure, Result.andThen_ok, List.map_toArray, List.map_cons, List.map_nil, hs, hx, hrun]
  exact hK _ _ (h b cap w' h2 h3 h4)
theorem step_append_pg {E : Prop} {K : Act → World → Prop} (hgd : o.guard = none) (s x : Operand) (t : TypeId) (ho : o.op = .call { callee := .builtin .append, args := #[s, x], argTypes := #[t, t] })
    {e : TypeId} {z : Value} {bytes : Nat} (T : Plain P t e z bytes) (v y : Value) (xs news : List Value) (F G : Nat → Prop) (hs : a.eval s = v) (hx : a.eval x = y) (hown : Own w e v xs F) (hr : Reads w y news G)
    (h1 : ∀ u ∈ news, u.oneCell' = true) (hsz : (xs.length + news.length) * (bytes + 1) ≤ 140737488355328)
    (h : ∀ (b : Option Addr) (cap : Nat) (w' : World), Own w' e (.slice b (xs.length + news.length) cap) (xs ++ news) (fun k => v.ownBlock = some k ∨ w.heap.size ≤ k) → Kept (fun k => v.ownBlock = some k) w w' →
      K (a.put o.dst (.slice b (xs.length + news.length) cap)) w') : if Region.wanted o (yielded ops a.tmps) = true then Oper.wp P o a w K Q else E := by
  have hw : Region.wanted o (yielded ops a.tmps) = true := by simp [Region.wanted, hgd]
  rw [if_pos hw]
  obtain ⟨v', w', hrun, h2, h3, h4⟩ := append_law T hown hr h1 hsz o.type
  have hsh : ∃ b cap, v' = .slice b (xs.length + news.length) cap := by
    rcases h2.shape with ⟨rfl, hx⟩ | ⟨g, cap, cur, rfl, _⟩
    · exact ⟨none, 0, by rw [← List.length_append, hx]; rfl⟩
    · exact ⟨_, cap, by rw [List.length_append]⟩
  obtain ⟨b, cap, rfl⟩ := hsh
  unfold Oper.wp execOp
  simp only [ho, resolve, invoke, builtin, Sem.run_bind, Sem.run_pure, Result.andThen_ok, List.map_toArray, List.map_cons, List.map_nil, hs, hx, hrun]
  exact h b cap w' h2 h3
theorem wpList_append1_pg (hgd : o.guard = none) (s x : Operand) (t : TypeId) (ho : o.op = .call { callee := .builtin .append, args := #[s, x], argTypes := #[t, t] })
    {e : TypeId} {z : Value} {bytes : Nat} (T : Plain P t e z bytes) (v : Value) (xs : List Value) (u : Value) (F : Nat → Prop) (ad : Addr) (c : Nat) (hs : a.eval s = v) (hx : a.eval x = .slice (some ad) 1 c) (hown : Own w e v xs F) (hc : w.cell? ⟨ad.block, ad.off, none⟩ = some u)
    (had : ad.spot = none) (hc1 : 1 ≤ c) (h1 : u.oneCell' = true) (hsz : (xs.length + 1) * (bytes + 1) ≤ 140737488355328)
    (h : ∀ (g : Nat) (cap : Nat) (w' : World), Own w' e (.slice (some ⟨g, 0, none⟩) (xs.length + 1) cap) (xs ++ [u]) (fun k => v.ownBlock = some k ∨ w.heap.size ≤ k) → Kept (fun k => v.ownBlock = some k) w w' →
      wpList P ops Q rest (a.put o.dst (.slice (some ⟨g, 0, none⟩) (xs.length + 1) cap)) w') : wpList P ops Q (o :: rest) a w := by
  obtain ⟨bb, oo, sp⟩ := ad
  simp only at had
  subst had
  refine wpList_append_pg hgd s x t ho T _ _ xs [u] F (fun _ => True) hs hx hown (.inr ⟨bb, oo, c, rfl, hc1, cell_lt hc, trivial, fun i x hi => ?_⟩) (by simpa using h1) hsz fun b cap w' h2 h3 h4 => ?_
  · match i, hi with
    | 0, hi => simp at hi; subst hi; simpa using hc
  · rcases h2.shape with ⟨hv, hx⟩ | ⟨g, cap', cur, hv, _⟩
    · simp at hx
    · simp only [Value.slice.injEq] at hv
      obtain ⟨rfl, _, rfl⟩ := hv
      exact h g cap w' h2 h3
theorem step_append1_pg {E : Prop} {K : Act → World → Prop} (hgd : o.guard = none) (s x : Operand) (t : TypeId) (ho : o.op = .call { callee := .builtin .append, args := #[s, x], argTypes := #[t, t] })
    {e : TypeId} {z : Value} {bytes : Nat} (T : Plain P t e z bytes) (v : Value) (xs : List Value) (u : Value) (F : Nat → Prop) (ad : Addr) (c : Nat) (hs : a.eval s = v) (hx : a.eval x = .slice (some ad) 1 c) (hown : Own w e v xs F) (hc : w.cell? ⟨ad.block, ad.off, none⟩ = some u)
    (had : ad.spot = none) (hc1 : 1 ≤ c) (h1 : u.oneCell' = true) (hsz : (xs.length + 1) * (bytes + 1) ≤ 140737488355328)
    (h : ∀ (g : Nat) (cap : Nat) (w' : World), Own w' e (.slice (some ⟨g, 0, none⟩) (xs.length + 1) cap) (xs ++ [u]) (fun k => v.ownBlock = some k ∨ w.heap.size ≤ k) → Kept (fun k => v.ownBlock = some k) w w' →
      K (a.put o.dst (.slice (some ⟨g, 0, none⟩) (xs.length + 1) cap)) w') : if Region.wanted o (yielded ops a.tmps) = true then Oper.wp P o a w K Q else E := by
  have hw : Region.wanted o (yielded ops a.tmps) = true := by simp [Region.wanted, hgd]
  rw [if_pos hw]
  obtain ⟨bb, oo, sp⟩ := ad
  simp only at had
  subst had
  obtain ⟨v', w', hrun, h2, h3, h4⟩ := append_law T hown (y := .slice (some ⟨bb, oo, none⟩) 1 c) (news := [u]) (G := fun _ => True) (.inr ⟨bb, oo, c, rfl, hc1, cell_lt hc, trivial, fun i x hi => by
    match i, hi with
    | 0, hi => simp at hi; subst hi; simpa using hc⟩) (by simpa using h1) hsz o.type
  have hsh : ∃ g cap, v' = .slice (some ⟨g, 0, none⟩) (xs.length + 1) cap := by
    rcases h2.shape with ⟨_, hx⟩ | ⟨g, cap, cur, rfl, _⟩
    · simp at hx
    · exact ⟨g, cap, by simp⟩
  obtain ⟨g, cap, rfl⟩ := hsh
  unfold Oper.wp execOp
  simp only [ho, resolve, invoke, builtin, Sem.run_bind, Sem.run_pure, Result.andThen_ok, List.map_toArray, List.map_cons, List.map_nil, hs, hx, hrun]
  exact h g cap w' h2 h3
theorem wpList_make_pg (hgd : o.guard = none) (l c : Operand) (t : TypeId) (ho : o.op = Op.makeSlice t l c)
    {e : TypeId} {z : Value} {bytes : Nat} (T : Plain P t e z bytes) (hz : z.oneCell' = true) (n : Nat) (kl kc : IntKind) (hl : a.eval l = .int kl n) (hc : a.eval c = .int kc n) (hsz : n * (bytes + 1) ≤ 140737488355328)
    (h : ∀ (w' : World), Own w' e (.slice (some ⟨w.heap.size, 0, none⟩) n n) (List.replicate n z) (fun k => w.heap.size ≤ k) → Kept Nob w w' →
      wpList P ops Q rest (a.put o.dst (.slice (some ⟨w.heap.size, 0, none⟩) n n)) w') : wpList P ops Q (o :: rest) a w := by
  obtain ⟨i, hi, hz', hs, hb⟩ := T.info
  have hm : n ≤ maxLen := by
    have : n * 1 ≤ n * (bytes + 1) := Nat.mul_le_mul_left _ (by omega)
    unfold maxLen; omega
  have hby : n * bytes ≤ 140737488355328 := Nat.le_trans (Nat.mul_le_mul_left _ (by omega)) hsz
  refine wpList_make_full w hgd l c t ho 0 e i z 1 T.sl hi hz' hs kl kc n n n hl hc rfl rfl (by rw [hb, Nat.mul_comm]; omega) hm (Nat.zero_le _) fun w' h2 h3 => h w' ⟨?_, fun g hg => ?_⟩ (Kept.grown_none h3)
  · have hzc : z.cells = #[z] := by cases z <;> simp_all [Value.cells, Value.oneCell']
    have e1 : (madeCells z.cells (n * 1)).toList = List.replicate n z := by rw [hzc, Nat.mul_one]; exact toList_madeCells_one z n
    rw [e1] at h2
    simpa using h2
  · simp [Value.ownBlock] at hg; omega
def laid (xs : List Value) (o dl : Nat) (ys : List Value) : List Value := xs.take o ++ (ys.take dl ++ xs.drop (o + min ys.length dl))
theorem laid_length {xs : List Value} {o dl : Nat} {ys : List Value} (h : o + dl ≤ xs.length) : (laid xs o dl ys).length = xs.length := by
  simp only [laid, List.length_append, List.length_take, List.length_drop]; omega
theorem copy_law {t t' e : TypeId} {z : Value} {bytes : Nat} (T : Plain P t e z bytes) {y : Value} {xs ys : List Value} {F G : Nat → Prop} {g n cap o dl dc : Nat} (hown : Own w e (.slice (some ⟨g, 0, none⟩) n cap) xs F) (hr : Reads w y ys G)
    (hfit : o + dl ≤ xs.length) (h1 : ∀ u ∈ ys, u.oneCell' = true) (ty : TypeId) :
    ∃ w', (Builtin.copy_ #[t, t'] ty #[.slice (some ⟨g, o, none⟩) dl dc, y]).run P w = .ok (goInt (ys.take dl).length) w' ∧ Own w' e (.slice (some ⟨g, 0, none⟩) n cap) (laid xs o dl ys) F ∧ Kept (Just g) w w' := by
  obtain ⟨i, hi, hz, hs, hb⟩ := T.info
  have hsz : (P.info? e).map (·.size) = some 1 := by rw [hi]; simp [hs]
  obtain ⟨ya, yc, rfl, hya⟩ := hr.shape
  have hn := hown.len
  subst hn
  by_cases hm : min ys.length dl = 0
  · refine ⟨w, ?_, ?_, Kept.refl _ _⟩
    · rw [show (ys.take dl).length = 0 from by simp only [List.length_take]; omega]
      exact run_copy_none (P := P) w t t' ty e (some ⟨g, o, none⟩) ya dl dc ys.length yc T.sl hsz hm
    · have : laid xs o dl ys = xs := by
        have h0 : ys.take dl = [] := by
          apply List.eq_nil_of_length_eq_zero
          simp only [List.length_take]; omega
        rw [laid, h0, hm]; simp
      rw [this]; exact hown
  · rcases hr with ⟨hx, _⟩ | ⟨b', o', c', hv, hl, hlt, _, hc⟩
    · simp [hx] at hm
    · simp only [Value.slice.injEq] at hv
      obtain ⟨rfl, _, rfl⟩ := hv
      rcases hown.shape with ⟨hv, _⟩ | ⟨g', cap', cur, hv, hF, hlg, hcap, hmax, hg, hcs, ht⟩
      · simp at hv
      · simp only [Value.slice.injEq, Option.some.injEq, Addr.mk.injEq] at hv
        obtain ⟨⟨rfl, _, _⟩, _, rfl⟩ := hv
        have hll : (ys.take dl).length = min ys.length dl := by simp only [List.length_take]; omega
        have hrun := run_copy_row (P := P) w t t' ty e g o dl dc ⟨b', o', none⟩ ys.length yc cur e (ys.take dl) T.sl hsz hg hll (fun j v hj => by
          rw [show (⟨b', o', none⟩ : Addr).add j = ⟨b', o' + j, none⟩ from by unfold Addr.add; split <;> simp_all]
          refine hc j v ?_
          rw [List.getElem?_take] at hj
          split at hj
          · exact hj
          · cases hj) (by rw [hll]; omega) (fun u hu => h1 u (List.mem_of_mem_take hu))
        refine ⟨_, hrun, ⟨?_, hown.2⟩, ⟨rfl, rfl, rfl, by simp [World.setRow], fun k _ hk => setRow_other w g k _ hk⟩⟩
        have hlaid := laid_length (xs := xs) (o := o) (dl := dl) (ys := ys) hfit
        have hle : xs.length ≤ cur.size := by omega
        refine ⟨by rw [hlaid]; simp, .inr ⟨g, cap, _, by rw [hlaid], Nat.zero_le _, setRow_heap w g cur _ e _ hg, by rw [hlaid]; exact hcap, hmax, ?_, ?_⟩⟩
        · simp only [List.size_toArray, List.length_append, List.length_take, List.length_drop, Array.length_toList, Nat.mul_one]
          omega
        · rw [Nat.mul_one, hlaid]
          have hle' : xs.length ≤ cur.toList.length := by rw [Array.length_toList]; omega
          show List.take xs.length (cur.toList.take o ++ ys.take dl ++ cur.toList.drop (o + (ys.take dl).length)) = _
          rw [hll]
          rw [List.append_assoc, List.take_append, List.take_append]
          have q1 : List.take xs.length (cur.toList.take o) = xs.take o := by
            rw [← ht, List.take_take, List.take_take, Nat.min_comm]
            congr 1
            simp only [List.length_take]; omega
          have q2 : List.take (xs.length - (cur.toList.take o).length) (ys.take dl) = ys.take dl := by
            apply List.take_of_length_le
            simp only [List.length_take]; omega
          have q3 : List.take (xs.length - (cur.toList.take o).length - (ys.take dl).length) (cur.toList.drop (o + min ys.length dl)) = xs.drop (o + min ys.length dl) := by
            conv => rhs; rw [← ht]
            rw [List.drop_take]
            congr 1
            simp only [List.length_take]; omega
          rw [q1, q2, q3, laid]
theorem step_copy_pg {E : Prop} {K : Act → World → Prop} (hgd : o.guard = none) (d s : Operand) (t t' : TypeId) (ho : o.op = .call { callee := .builtin .copy, args := #[d, s], argTypes := #[t, t'] })
    {e : TypeId} {z : Value} {bytes : Nat} (T : Plain P t e z bytes) (y : Value) (xs ys : List Value) (F G : Nat → Prop) (g n cap off dl dc : Nat) (hd : a.eval d = .slice (some ⟨g, off, none⟩) dl dc) (hs : a.eval s = y)
    (hown : Own w e (.slice (some ⟨g, 0, none⟩) n cap) xs F) (hr : Reads w y ys G) (hfit : off + dl ≤ xs.length) (h1 : ∀ u ∈ ys, u.oneCell' = true)
    (h : ∀ (w' : World), Own w' e (.slice (some ⟨g, 0, none⟩) n cap) (laid xs off dl ys) F → Kept (Just g) w w' → K (a.put o.dst (goInt (ys.take dl).length)) w') :
    if Region.wanted o (yielded ops a.tmps) = true then Oper.wp P o a w K Q else E := by
  have hw : Region.wanted o (yielded ops a.tmps) = true := by simp [Region.wanted, hgd]
  rw [if_pos hw]
  obtain ⟨w', hrun, h2, h3⟩ := copy_law (t' := t') (o := off) (dl := dl) (dc := dc) T hown hr hfit h1 o.type
  unfold Oper.wp execOp
  simp only [ho, resolve, invoke, builtin, Sem.run_bind, Sem.run_pure, Result.andThen_ok, List.map_toArray, List.map_cons, List.map_nil, hd, hs, hrun]
  exact h w' h2 h3
end laws
def RetRow (w : World) (e : TypeId) (xs : List Value) (isNil : Prop) (en : Ending) (w' : World) : Prop :=
  ∃ b cap, en = .returned (.slice b xs.length cap) ∧ Own w' e (.slice b xs.length cap) xs (From w.heap.size) ∧ Kept Nob w w' ∧ (Value.slice b xs.length cap = .slice none 0 0 ↔ isNil)
theorem Own.alloc {w : World} {e : TypeId} {v : Value} {xs : List Value} {F : Nat → Prop} (h : Own w e v xs F) (o : Obj) : Own (w.alloc o) e v xs F := h.kept (Kept.alloc Nob w o) (fun _ _ f => f)
theorem Reads.alloc {w : World} {v : Value} {xs : List Value} {F : Nat → Prop} (h : Reads w v xs F) (o : Obj) : Reads (w.alloc o) v xs F := h.kept (Kept.alloc Nob w o) (fun _ _ f => f)
theorem Own.drew {w : World} {e : TypeId} {v : Value} {xs : List Value} {F : Nat → Prop} (h : Own w e v xs F) : Own w.drew e v xs F := h.kept (Kept.drew Nob w) (fun _ _ f => f)
theorem Reads.drew {w : World} {v : Value} {xs : List Value} {F : Nat → Prop} (h : Reads w v xs F) : Reads w.drew v xs F := h.kept (Kept.drew Nob w) (fun _ _ f => f)
theorem Own.empty_new (w : World) (e : TypeId) : Own (w.alloc (.cells #[] e)) e (.slice (some ⟨w.heap.size, 0, none⟩) 0 0) [] (From w.heap.size) :=
  ⟨by simpa using World.ownsRow_made (base := 0) (e := e) (size := 1) w #[] 0 (Nat.zero_le _) (by unfold maxLen; omega) rfl, fun g hg => by simp [Value.ownBlock] at hg; simp [From]; omega⟩
structure RowsAt (w : World) (e : TypeId) (vs : List Value) (xss : List (List Value)) (F : Nat → Prop) : Prop where
  len : vs.length = xss.length
  own : ∀ (i : Nat) (v : Value) (x : List Value), vs[i]? = some v → xss[i]? = some x → Own w e v x F
  apart : ∀ (i j : Nat) (v u : Value) (g : Nat), vs[i]? = some v → vs[j]? = some u → v.ownBlock = some g → u.ownBlock = some g → i = j
def OwnRows (w : World) (er e : TypeId) (v : Value) (xss : List (List Value)) (F : Nat → Prop) : Prop :=
  ∃ vs, Own w er v vs F ∧ RowsAt w e vs xss F
theorem RowsAt.nil (w : World) (e : TypeId) (F : Nat → Prop) : RowsAt w e [] [] F := ⟨rfl, fun i v x h => by simp at h, fun i j v u g h => by simp at h⟩
theorem RowsAt.kept {w w' : World} {e : TypeId} {vs : List Value} {xss : List (List Value)} {F G : Nat → Prop} (h : RowsAt w e vs xss F) (hk : Kept G w w') (hd : ∀ k, F k → ¬ G k) : RowsAt w' e vs xss F :=
  ⟨h.len, fun i v x h1 h2 => (h.own i v x h1 h2).kept hk hd, h.apart⟩
theorem RowsAt.mono {w : World} {e : TypeId} {vs : List Value} {xss : List (List Value)} {F G : Nat → Prop} (h : RowsAt w e vs xss F) (hg : ∀ k, k < w.heap.size → F k → G k) : RowsAt w e vs xss G :=
  ⟨h.len, fun i v x h1 h2 => (h.own i v x h1 h2).mono hg, h.apart⟩
theorem OwnRows.kept {w w' : World} {er e : TypeId} {v : Value} {xss : List (List Value)} {F G : Nat → Prop} (h : OwnRows w er e v xss F) (hk : Kept G w w') (hd : ∀ k, F k → ¬ G k) : OwnRows w' er e v xss F := by
  obtain ⟨vs, h1, h2⟩ := h
  exact ⟨vs, h1.kept hk hd, h2.kept hk hd⟩
theorem OwnRows.mono {w : World} {er e : TypeId} {v : Value} {xss : List (List Value)} {F G : Nat → Prop} (h : OwnRows w er e v xss F) (hg : ∀ k, k < w.heap.size → F k → G k) : OwnRows w er e v xss G := by
  obtain ⟨vs, h1, h2⟩ := h
  exact ⟨vs, h1.mono hg, h2.mono hg⟩
theorem Own.blockLt {w : World} {e : TypeId} {v : Value} {xs : List Value} {F : Nat → Prop} (h : Own w e v xs F) {g : Nat} (hg : v.ownBlock = some g) : g < w.heap.size := (h.1.lt g hg).2
theorem Own.blockIs {w : World} {e : TypeId} {v : Value} {xs : List Value} {F : Nat → Prop} (h : Own w e v xs F) {g : Nat} (hg : v.ownBlock = some g) : ∃ cur, w.heap[g]? = some (.cells cur e (0, 0)) := by
  rcases h.shape with ⟨rfl, _⟩ | ⟨g', cap, cur, rfl, _, _, _, _, hh, _, _⟩
  · simp [Value.ownBlock] at hg
  · simp [Value.ownBlock] at hg; subst hg; exact ⟨cur, hh⟩
theorem RowsAt.snoc {w : World} {e : TypeId} {vs : List Value} {xss : List (List Value)} {F : Nat → Prop} (h : RowsAt w e vs xss F) {v : Value} {x : List Value} (hv : Own w e v x F)
    (hn : ∀ (i : Nat) (u : Value) (g : Nat), vs[i]? = some u → u.ownBlock = some g → v.ownBlock ≠ some g) : RowsAt w e (vs ++ [v]) (xss ++ [x]) F := by
  have hl := h.len
  refine ⟨by simp [hl], fun i u y h1 h2 => ?_, fun i j u u' g h1 h2 g1 g2 => ?_⟩
  · by_cases hi : i < vs.length
    · rw [List.getElem?_append_left hi] at h1
      rw [List.getElem?_append_left (by omega)] at h2
      exact h.own i u y h1 h2
    · rw [List.getElem?_append_right (by omega)] at h1
      rw [List.getElem?_append_right (by omega)] at h2
      have h0 : i - vs.length = 0 := by
        have := (List.getElem?_eq_some_iff.1 h1).1
        simp at this; omega
      rw [h0] at h1
      rw [show i - xss.length = 0 from by omega] at h2
      simp at h1 h2
      subst h1 h2
      exact hv
  · have cases' : ∀ i u, (vs ++ [v])[i]? = some u → (i < vs.length ∧ vs[i]? = some u) ∨ (i = vs.length ∧ u = v) := by
      intro i u h
      by_cases hi : i < vs.length
      · rw [List.getElem?_append_left hi] at h; exact .inl ⟨hi, h⟩
      · rw [List.getElem?_append_right (by omega)] at h
        have := (List.getElem?_eq_some_iff.1 h).1
        simp at this
        have h0 : i = vs.length := by omega
        subst h0
        simp at h
        exact .inr ⟨rfl, h.symm⟩
    rcases cases' i u h1 with ⟨_, a1⟩ | ⟨a1, a2⟩ <;> rcases cases' j u' h2 with ⟨_, b1⟩ | ⟨b1, b2⟩
    · exact h.apart i j u u' g a1 b1 g1 g2
    · subst b2; exact absurd g2 (hn i u g a1 g1)
    · subst a2; exact absurd g1 (hn j u' g b1 g2)
    · omega
theorem RowsAt.set {w : World} {e : TypeId} {vs : List Value} {xss : List (List Value)} {F : Nat → Prop} (h : RowsAt w e vs xss F) (i : Nat) {v : Value} {x : List Value} (hv : Own w e v x F)
    (hn : ∀ (i : Nat) (u : Value) (g : Nat), vs[i]? = some u → u.ownBlock = some g → v.ownBlock ≠ some g) : RowsAt w e (vs.set i v) (xss.set i x) F := by
  have hl := h.len
  refine ⟨by simp [hl], fun j u y h1 h2 => ?_, fun j k u u' g h1 h2 g1 g2 => ?_⟩
  · by_cases hij : i = j
    · subst hij
      rw [List.getElem?_set] at h1 h2
      simp at h1 h2
      rw [← h1.2, ← h2.2]
      exact hv
    · rw [List.getElem?_set_ne hij] at h1 h2
      exact h.own j u y h1 h2
  · have cases' : ∀ j u, (vs.set i v)[j]? = some u → (j = i ∧ u = v) ∨ vs[j]? = some u := by
      intro j u h
      rw [List.getElem?_set] at h
      split at h
      · split at h
        · simp at h; exact .inl ⟨by omega, h.symm⟩
        · simp at h
      · exact .inr h
    rcases cases' j u h1 with ⟨a1, a2⟩ | a1 <;> rcases cases' k u' h2 with ⟨b1, b2⟩ | b1
    · omega
    · subst a2; exact absurd g1 (hn k u' g b1 g2)
    · subst b2; exact absurd g2 (hn j u g a1 g1)
    · exact h.apart j k u u' g a1 b1 g1 g2
theorem RowsAt.drew {w : World} {e : TypeId} {vs : List Value} {xss : List (List Value)} {F : Nat → Prop} (h : RowsAt w e vs xss F) : RowsAt w.drew e vs xss F := h.kept (Kept.drew Nob w) (fun _ _ f => f)
theorem OwnRows.drew {w : World} {er e : TypeId} {v : Value} {xss : List (List Value)} {F : Nat → Prop} (h : OwnRows w er e v xss F) : OwnRows w.drew er e v xss F := h.kept (Kept.drew Nob w) (fun _ _ f => f)
theorem Own.not_in {w : World} {e e' : TypeId} {v : Value} {xs : List Value} {F : Nat → Prop} (h : Own w e v xs F) {b : Nat} {cs : Array Value} {fz : Nat × Nat} (hb : w.heap[b]? = some (.cells cs e' fz)) (hne : e ≠ e') : v.ownBlock ≠ some b := by
  intro hv
  obtain ⟨cur, hc⟩ := h.blockIs hv
  rw [hb] at hc
  simp at hc
  exact hne hc.2.1.symm
theorem Own.keptT {w w' : World} {e : TypeId} {v : Value} {xs : List Value} {F G : Nat → Prop} (h : Own w e v xs F) (hk : Kept G w w') (hd : ∀ k, G k → v.ownBlock ≠ some k) : Own w' e v xs F := by
  have h2 : Own w e v xs (fun k => v.ownBlock = some k) := ⟨h.1, fun g hg => hg⟩
  exact ⟨(h2.kept hk (fun k hk hG => hd k hG hk)).1, h.2⟩
theorem OwnRows.keptT {w w' : World} {er e : TypeId} {v : Value} {xss : List (List Value)} {F G : Nat → Prop} (h : OwnRows w er e v xss F) (hk : Kept G w w')
    (hd : ∀ k, G k → ∃ cs e' fz, w.heap[k]? = some (.cells cs e' fz) ∧ e' ≠ er ∧ e' ≠ e) : OwnRows w' er e v xss F := by
  obtain ⟨vs, h1, h2⟩ := h
  refine ⟨vs, h1.keptT hk fun k hG => ?_, h2.len, fun i u x a c => (h2.own i u x a c).keptT hk fun k hG => ?_, h2.apart⟩
  · obtain ⟨cs, e', fz, hb, hn1, hn2⟩ := hd k hG
    exact h1.not_in hb hn1.symm
  · obtain ⟨cs, e', fz, hb, hn1, hn2⟩ := hd k hG
    exact (h2.own i u x a c).not_in hb hn2.symm
theorem kept1 (w : World) (b i : Nat) (v : Value) : Kept (Just b) w (w.setCell ⟨b, i, none⟩ v) := Kept.setCell w ⟨b, i, none⟩ v (show b = b from rfl)
theorem OwnRows.cell {w : World} {er e : TypeId} {g n cap : Nat} {xss : List (List Value)} {F : Nat → Prop} (h : OwnRows w er e (.slice (some ⟨g, 0, none⟩) n cap) xss F) {i : Nat} (hi : i < xss.length) :
    ∃ v, w.cell? ⟨g, i, none⟩ = some v ∧ w.frozen? ⟨g, i, none⟩ = false ∧ Own w e v xss[i] F ∧ n = xss.length := by
  obtain ⟨vs, h1, h2⟩ := h
  have hiv : i < vs.length := by rw [h2.len]; exact hi
  exact ⟨vs[i], h1.cell i _ (List.getElem?_eq_getElem hiv), h1.frozen i, h2.own i _ _ (List.getElem?_eq_getElem hiv) (List.getElem?_eq_getElem hi), by rw [h1.len, h2.len]⟩
theorem OwnRows.store {w w1 : World} {er e : TypeId} (hne : e ≠ er) {g n cap : Nat} {xss : List (List Value)} {F : Nat → Prop} (h : OwnRows w er e (.slice (some ⟨g, 0, none⟩) n cap) xss F) (hk1 : Kept Nob w w1)
    {v : Value} {x : List Value} (ho1 : Own w1 e v x (From w.heap.size)) (i : Nat) :
    OwnRows (w1.setCell ⟨g, i, none⟩ v) er e (.slice (some ⟨g, 0, none⟩) n cap) (xss.set i x) (fun k => F k ∨ (w.heap.size ≤ k ∧ k < w1.heap.size)) ∧ F g ∧
    Own (w1.setCell ⟨g, i, none⟩ v) e v x (From w.heap.size) := by
  obtain ⟨vs, hn, hn2⟩ := h
  have hgF : F g := hn.2 g rfl
  have hn1 := hn.kept hk1 (fun _ _ f => f)
  have hn21 := hn2.kept hk1 (fun _ _ f => f)
  obtain ⟨cur, hgb1⟩ := hn1.blockIs (g := g) rfl
  have hks := kept1 w1 g i v
  have hov : Own (w1.setCell ⟨g, i, none⟩ v) e v x (From w.heap.size) := ho1.keptT hks fun j hj => by rw [show j = g from hj]; exact ho1.not_in hgb1 hne
  refine ⟨⟨vs.set i v, (hn1.set i _).mono (fun j _ h => .inl h), ?_⟩, hgF, hov⟩
  have q : RowsAt (w1.setCell ⟨g, i, none⟩ v) e vs xss (fun k => F k ∨ (w.heap.size ≤ k ∧ k < w1.heap.size)) :=
    ⟨hn21.len, fun i u y c1 c2 => ((hn21.own i u y c1 c2).keptT hks fun j hj => by rw [show j = g from hj]; exact (hn21.own i u y c1 c2).not_in hgb1 hne).mono (fun j _ h => .inl h), hn21.apart⟩
  refine q.set i (hov.mono fun j hj h => .inr ⟨h, ?_⟩) ?_
  · simpa [World.setCell] using hj
  · intro i' u j hu1 hj hj'
    have hil : i' < xss.length := by rw [← hn2.len]; exact (List.getElem?_eq_some_iff.1 hu1).1
    have h1 := (hn2.own i' u _ hu1 (List.getElem?_eq_getElem hil)).blockLt hj
    have h2 : w.heap.size ≤ j := ho1.2 j hj'
    omega
theorem OwnRows.snoc {w w2 : World} {er e : TypeId} (hne : e ≠ er) {v : Value} {vs : List Value} {xss : List (List Value)} {F G : Nat → Prop} (hv : Own w er v vs F) (hr : RowsAt w e vs xss F) (hd : Disj F G)
    {u : Value} {x : List Value} (ho : Own w e u x G) {v2 : Value} (ho2 : Own w2 er v2 (vs ++ [u]) (fun k => v.ownBlock = some k ∨ w.heap.size ≤ k)) (hk2 : Kept (fun k => v.ownBlock = some k) w w2) :
    OwnRows w2 er e v2 (xss ++ [x]) (fun k => F k ∨ G k ∨ (w.heap.size ≤ k ∧ k < w2.heap.size)) ∧ Own w2 e u x G := by
  have hno : ∀ (u : Value) (y : List Value) (H : Nat → Prop), Own w e u y H → ∀ j, v.ownBlock = some j → u.ownBlock ≠ some j := fun u y H hu j hj => by
    obtain ⟨cur, hc⟩ := hv.blockIs hj
    exact hu.not_in hc hne
  have ho' := ho.keptT hk2 (hno _ _ _ ho)
  refine ⟨⟨vs ++ [u], ho2.mono fun k hk h => ?_, ?_⟩, ho'⟩
  · rcases h with h | h
    · exact .inl (hv.2 k h)
    · exact .inr (.inr ⟨h, hk⟩)
  · refine RowsAt.snoc ⟨hr.len, fun i u y a c => ((hr.own i u y a c).keptT hk2 (hno _ _ _ (hr.own i u y a c))).mono (fun k _ h => .inl h), hr.apart⟩ (ho'.mono fun k _ h => .inr (.inl h)) ?_
    intro i' u' j hu1 hj hj'
    have hil : i' < xss.length := by rw [← hr.len]; exact (List.getElem?_eq_some_iff.1 hu1).1
    exact hd j ((hr.own i' u' _ hu1 (List.getElem?_eq_getElem hil)).2 j hj) (ho.2 j hj')
def RetRows (w : World) (er e : TypeId) (xss : List (List Value)) (en : Ending) (w' : World) : Prop :=
  ∃ b cap, en = .returned (.slice b xss.length cap) ∧ OwnRows w' er e (.slice b xss.length cap) xss (From w.heap.size) ∧ Kept Nob w w'
end Go.Proofs.YthppgchmamonnaaGreatDoor
