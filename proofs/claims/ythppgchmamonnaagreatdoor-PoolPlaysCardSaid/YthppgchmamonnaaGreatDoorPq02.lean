/- Disk: the plain model of a disk: what its functions compute. No program in sight. Small words on rows that are read, and on rows that append made. No program in sight. The log's plain model: marks, records as bytes, where a log lies on the sectors of a disk. No program in sight. Rows whose elements are structs: k cells an element. What a call owns (OwnK), what is read (ReadsK); append. No program in sight. -/
import Derived.Test.YthppgchmamonnaaGreatDoorPq01
namespace Go.Proofs.YthppgchmamonnaaGreatDoor
open Go.RowKit
structure Dsk where
  good : List (List Value)
  now : List (List Value)
  order : List Int
  ops : Int
  cut : Bool
  left : Int
  off : Bool
namespace Dsk
def zeroSector : List Value := List.replicate 64 (.int .u8 0)
def fresh (n : Nat) : Dsk := ⟨List.replicate n zeroSector, List.replicate n zeroSector, [], 0, false, 0, false⟩
def goes (d : Dsk) : Bool := !(d.off || (d.cut && decide (d.left < 1)))
def begun (d : Dsk) : Dsk := { d with ops := d.ops + 1, off := !d.goes, left := if d.goes && d.cut then d.left - 1 else d.left }
def put (d : Dsk) (at_ : Nat) (x : List Value) : Dsk := { d with order := if (at_ : Int) ∈ d.order then d.order else d.order ++ [(at_ : Int)], now := d.now.set at_ x }
def write (d : Dsk) (at_ : Int) (x : List Value) : Dsk × Nat :=
  if at_ < 0 ∨ d.now.length ≤ at_ then (d, 2)
  else if x.length ≠ 64 then (d, 1)
  else if d.goes then (d.begun.put at_.toNat x, 0) else (d.begun, 9)
def settle (now : List (List Value)) : List Int → List (List Value) → List (List Value)
  | [], good => good
  | k :: r, good => settle now r (good.set k.toNat (now.getD k.toNat []))
def sync (d : Dsk) : Dsk × Nat :=
  if d.goes then ({ d.begun with good := settle d.now d.order d.good, order := [] }, 0) else (d.begun, 9)
def bite (now : List (List Value)) (keep : List Bool) (torn : Int) (k : Nat) (at_ : Nat) (good : List (List Value)) : List (List Value) :=
  if (k : Int) = torn then good.set at_ ((now.getD at_ []).take 32 ++ (good.getD at_ []).drop 32)
  else if keep ≠ [] ∧ keep.getD (k % keep.length) false = true then good.set at_ (now.getD at_ []) else good
def bites (now : List (List Value)) (keep : List Bool) (torn : Int) : List Int → Nat → List (List Value) → List (List Value)
  | [], _, good => good
  | a :: r, k, good => bites now keep torn r (k + 1) (bite now keep torn k a.toNat good)
def crash (d : Dsk) (keep : List Bool) (torn : Int) : Dsk :=
  let g := bites d.now keep torn d.order 0 d.good
  ⟨g, g, [], 0, false, 0, false⟩
def slash (d : Dsk) (n : Int) : Dsk := { d with cut := true, left := max n 0 }
structure Wf (d : Dsk) : Prop where
  len : d.now.length = d.good.length
  pos : 1 ≤ d.good.length
  most : d.good.length ≤ 8192
  good : ∀ x ∈ d.good, x.length = 64 ∧ ∀ u ∈ x, IsByte u
  now : ∀ x ∈ d.now, x.length = 64 ∧ ∀ u ∈ x, IsByte u
  order : ∀ k ∈ d.order, 0 ≤ k ∧ k < d.good.length
  once : d.order.Nodup
  ops : 0 ≤ d.ops
  left : 0 ≤ d.left ∧ d.left ≤ 9223372036854775807
  calm : ∀ i : Nat, i < d.good.length → (i : Int) ∉ d.order → d.now.getD i [] = d.good.getD i []
theorem nodup_le : ∀ (n : Nat) (l : List Int), l.Nodup → (∀ k ∈ l, 0 ≤ k ∧ k < (n : Int)) → l.length ≤ n := by
  intro n
  induction n with
  | zero =>
    intro l _ h
    match l with
    | [] => simp
    | x :: r => have := h x (by simp); omega
  | succ n ih =>
    intro l hn h
    by_cases hm : (n : Int) ∈ l
    · have h1 := ih (l.erase (n : Int)) (hn.erase _) (fun k hk => by
        have := h k (List.mem_of_mem_erase hk)
        have hne : k ≠ (n : Int) := fun e => by subst e; exact (List.Nodup.not_mem_erase hn) hk
        omega)
      have := List.length_erase_of_mem hm
      omega
    · have := ih l hn (fun k hk => by
        have := h k hk
        have hne : k ≠ (n : Int) := fun e => hm (e ▸ hk)
        omega)
      omega
theorem Wf.orderLen {d : Dsk} (h : d.Wf) : d.order.length ≤ 8192 := Nat.le_trans (nodup_le d.good.length d.order h.once h.order) h.most
theorem Wf.begun {d : Dsk} (h : d.Wf) : d.begun.Wf := by
  have hl := h.left
  have ho := h.ops
  refine ⟨h.len, h.pos, h.most, h.good, h.now, h.order, h.once, by simp [Dsk.begun]; omega, ?_, h.calm⟩
  simp only [Dsk.begun]
  split
  · rename_i hg
    simp [goes] at hg
    rcases hg.1.2 with h1 | h1
    · rw [hg.2] at h1; cases h1
    · omega
  · exact hl
theorem Wf.put {d : Dsk} (h : d.Wf) {k : Nat} (hk : k < d.good.length) {x : List Value} (hx : x.length = 64 ∧ ∀ u ∈ x, IsByte u) : (d.put k x).Wf := by
  refine ⟨by simpa [Dsk.put] using h.len, h.pos, h.most, h.good, ?_, ?_, ?_, h.ops, h.left, ?_⟩
  · intro y hy
    simp only [Dsk.put] at hy
    rcases List.mem_or_eq_of_mem_set hy with hy | rfl
    · exact h.now y hy
    · exact hx
  · intro j hj
    simp only [Dsk.put] at hj ⊢
    split at hj
    · exact h.order j hj
    · simp at hj
      rcases hj with hj | rfl
      · exact h.order j hj
      · omega
  · simp only [Dsk.put]
    split
    · exact h.once
    · rename_i hn
      rw [List.nodup_append]
      refine ⟨h.once, by simp, ?_⟩
      intro a ha b hb
      simp at hb
      subst hb
      exact fun e => hn (e ▸ ha)
  · intro i hi hn
    simp only [Dsk.put] at hn ⊢
    have hik : k ≠ i := fun e => by
      subst e
      split at hn
      · rename_i hm; exact hn hm
      · exact hn (by simp)
    rw [List.getD_eq_getElem?_getD, List.getElem?_set_ne hik, ← List.getD_eq_getElem?_getD]
    refine h.calm i hi fun hm => ?_
    split at hn
    · exact hn hm
    · exact hn (by simp [hm])
theorem settle_getD (now : List (List Value)) : ∀ (l : List Int) (good : List (List Value)) (i : Nat), (∀ k ∈ l, 0 ≤ k) → i < good.length → (settle now l good).getD i [] = if (i : Int) ∈ l then now.getD i [] else good.getD i [] := by
  intro l
  induction l with
  | nil => intro good i _ _; simp [settle]
  | cons k r ih =>
    intro good i hl hi
    rw [settle, ih _ i (fun j hj => hl j (by simp [hj])) (by simpa using hi)]
    have hk := hl k (by simp)
    by_cases hr : (i : Int) ∈ r
    · rw [if_pos hr, if_pos (by simp [hr])]
    · rw [if_neg hr]
      by_cases hik : (i : Int) = k
      · rw [if_pos (by simp [hik])]
        have e : k.toNat = i := by omega
        rw [e, List.getD_eq_getElem?_getD, List.getElem?_set_self hi]; rfl
      · rw [if_neg (by simp [hik, hr]), List.getD_eq_getElem?_getD, List.getElem?_set_ne (by omega), ← List.getD_eq_getElem?_getD]
theorem settle_length (now : List (List Value)) : ∀ (l : List Int) (good : List (List Value)), (settle now l good).length = good.length := by
  intro l
  induction l with
  | nil => intro good; rfl
  | cons k r ih => intro good; simp [settle, ih]
theorem settle_snoc (now : List (List Value)) (k : Int) : ∀ (l : List Int) (good : List (List Value)), settle now (l ++ [k]) good = (settle now l good).set k.toNat (now.getD k.toNat []) := by
  intro l
  induction l with
  | nil => intro good; rfl
  | cons j r ih => intro good; simp [settle, ih]
theorem bites_length (now : List (List Value)) (keep : List Bool) (torn : Int) : ∀ (l : List Int) (k : Nat) (good : List (List Value)), (bites now keep torn l k good).length = good.length := by
  intro l
  induction l with
  | nil => intro k good; rfl
  | cons a r ih => intro k good; simp only [bites, ih, bite]; split <;> (try split) <;> simp
theorem bites_snoc (now : List (List Value)) (keep : List Bool) (torn : Int) (a : Int) : ∀ (l : List Int) (k : Nat) (good : List (List Value)), bites now keep torn (l ++ [a]) k good = bite now keep torn (k + l.length) a.toNat (bites now keep torn l k good) := by
  intro l
  induction l with
  | nil => intro k good; rfl
  | cons j r ih => intro k good; simp only [List.cons_append, bites, ih, List.length_cons]; congr 1; omega
def Sectors (l : List (List Value)) : Prop := ∀ x ∈ l, x.length = 64 ∧ ∀ u ∈ x, IsByte u
theorem Sectors.getD {l : List (List Value)} (h : Sectors l) {i : Nat} (hi : i < l.length) : (l.getD i []).length = 64 ∧ ∀ u ∈ l.getD i [], IsByte u := by
  rw [List.getD_eq_getElem?_getD, List.getElem?_eq_getElem hi]
  exact h _ (List.getElem_mem hi)
theorem Sectors.set {l : List (List Value)} (h : Sectors l) (i : Nat) {x : List Value} (hx : x.length = 64 ∧ ∀ u ∈ x, IsByte u) : Sectors (l.set i x) := fun y hy => by
  rcases List.mem_or_eq_of_mem_set hy with hy | rfl
  · exact h y hy
  · exact hx
theorem Sectors.settle {now : List (List Value)} (hn : Sectors now) : ∀ (l : List Int) (good : List (List Value)), (∀ k ∈ l, 0 ≤ k ∧ k < (now.length : Int)) → Sectors good → Sectors (Dsk.settle now l good) := by
  intro l
  induction l with
  | nil => intro good _ hg; exact hg
  | cons k r ih =>
    intro good hl hg
    refine ih _ (fun j hj => hl j (by simp [hj])) (hg.set _ (hn.getD ?_))
    have := hl k (by simp)
    omega
theorem Sectors.bite {now good : List (List Value)} (hn : Sectors now) (hg : Sectors good) {keep : List Bool} {torn : Int} {k at_ : Nat} (ha : at_ < now.length) (hl : now.length = good.length) : Sectors (Dsk.bite now keep torn k at_ good) := by
  have h1 := hn.getD ha
  have h2 := hg.getD (i := at_) (by omega)
  unfold Dsk.bite
  split
  · refine hg.set _ ⟨by simp only [List.length_append, List.length_take, List.length_drop]; omega, fun u hu => ?_⟩
    rcases List.mem_append.1 hu with hu | hu
    · exact h1.2 u (List.mem_of_mem_take hu)
    · exact h2.2 u (List.mem_of_mem_drop hu)
  · split
    · exact hg.set _ h1
    · exact hg
theorem bite_length (now : List (List Value)) (keep : List Bool) (torn : Int) (k at_ : Nat) (good : List (List Value)) : (bite now keep torn k at_ good).length = good.length := by
  unfold bite; split <;> (try split) <;> simp
theorem Sectors.bites {now : List (List Value)} (hn : Sectors now) {keep : List Bool} {torn : Int} : ∀ (l : List Int) (k : Nat) (good : List (List Value)), (∀ k ∈ l, 0 ≤ k ∧ k < (now.length : Int)) → now.length = good.length → Sectors good → Sectors (Dsk.bites now keep torn l k good) := by
  intro l
  induction l with
  | nil => intro k good _ _ hg; exact hg
  | cons a r ih =>
    intro k good hl he hg
    have := hl a (by simp)
    exact ih _ _ (fun j hj => hl j (by simp [hj])) (by rw [bite_length]; exact he) (hn.bite hg (by omega) he)
theorem Wf.sync {d : Dsk} (h : d.Wf) : d.sync.1.Wf := by
  unfold Dsk.sync
  split
  · have hb := h.begun
    refine ⟨by simp only [settle_length]; exact h.len, by simp only [settle_length]; exact h.pos, by simp only [settle_length]; exact h.most, ?_, h.now, by simp, by simp, hb.ops, hb.left, ?_⟩
    · exact Sectors.settle h.now _ _ (fun k hk => by rw [h.len]; exact h.order k hk) h.good
    · intro i hi _
      simp only [settle_length] at hi
      show d.now.getD i [] = (settle d.now d.order d.good).getD i []
      rw [settle_getD _ _ _ _ (fun k hk => (h.order k hk).1) hi]
      split
      · rfl
      · rename_i hn; exact h.calm i hi hn
  · exact h.begun
theorem Wf.crash {d : Dsk} (h : d.Wf) (keep : List Bool) (torn : Int) : (d.crash keep torn).Wf := by
  have hs : Sectors (Dsk.bites d.now keep torn d.order 0 d.good) := Sectors.bites h.now _ _ _ (fun k hk => by rw [h.len]; exact h.order k hk) h.len h.good
  exact ⟨rfl, by simp only [Dsk.crash, bites_length]; exact h.pos, by simp only [Dsk.crash, bites_length]; exact h.most, hs, hs, by simp [Dsk.crash], by simp [Dsk.crash], by simp [Dsk.crash], by simp [Dsk.crash], fun _ _ _ => rfl⟩
theorem Wf.fresh {n : Nat} (h1 : 1 ≤ n) (h2 : n ≤ 8192) : (fresh n).Wf := by
  have hs : Sectors (List.replicate n zeroSector) := fun x hx => by
    rw [List.mem_replicate] at hx
    rw [hx.2]
    refine ⟨by simp [zeroSector], fun u hu => ?_⟩
    rw [zeroSector, List.mem_replicate] at hu
    rw [hu.2]; exact ⟨0, rfl⟩
  exact ⟨rfl, by simpa [Dsk.fresh] using h1, by simpa [Dsk.fresh] using h2, hs, hs, by simp [Dsk.fresh], by simp [Dsk.fresh], by simp [Dsk.fresh], by simp [Dsk.fresh], fun _ _ _ => rfl⟩
theorem Wf.slash {d : Dsk} (h : d.Wf) {n : Int} (hn : n ≤ 9223372036854775807) : (d.slash n).Wf :=
  ⟨h.len, h.pos, h.most, h.good, h.now, h.order, h.once, h.ops, by simp only [Dsk.slash]; omega, h.calm⟩
end Dsk
theorem Reads.cell {w : World} {a : Option Addr} {n c : Nat} {xs : List Value} {F : Nat → Prop} (h : Reads w (.slice a n c) xs F) {i : Nat} (hi : i < xs.length) :
    ∃ b o v, a = some ⟨b, o, none⟩ ∧ xs[i]? = some v ∧ w.cell? ⟨b, o + i, none⟩ = some v ∧ n = xs.length := by
  rcases h with ⟨hx, _⟩ | ⟨b, o, c', hv, _, _, _, hc⟩
  · simp [hx] at hi
  · simp at hv
    exact ⟨b, o, xs[i], hv.1, by simp [hi], hc i _ (by simp [hi]), hv.2.1⟩
theorem Reads.dropped {w : World} {b o l c : Nat} {xs : List Value} {F : Nat → Prop} (h : Reads w (.slice (some ⟨b, o, none⟩) l c) xs F) (m : Nat) (h0 : m < xs.length) : Reads w (.slice (some ⟨b, o + m, none⟩) (l - m) (c - m)) (xs.drop m) F := by
  rcases h with ⟨hx, _⟩ | ⟨b', o', cap, hv, hl, hb, hF, hc⟩
  · simp [hx] at h0
  · simp only [Value.slice.injEq, Option.some.injEq, Addr.mk.injEq, and_true] at hv
    obtain ⟨⟨rfl, rfl⟩, rfl, rfl⟩ := hv
    refine .inr ⟨b, o + m, c - m, by simp, by simp; omega, hb, hF, fun i x hi => ?_⟩
    rw [List.getElem?_drop] at hi
    rw [Nat.add_assoc]
    exact hc _ x hi
theorem Reads.some' {w : World} {a : Option Addr} {n c : Nat} {xs : List Value} {F : Nat → Prop} (h : Reads w (.slice a n c) xs F) (h0 : 0 < xs.length) : ∃ b o, a = some ⟨b, o, none⟩ ∧ n = xs.length ∧ xs.length ≤ c ∧ b < w.heap.size ∧ F b := by
  rcases h with ⟨hx, _⟩ | ⟨b, o, c', hv, hl, hb, hF, _⟩
  · simp [hx] at h0
  · simp only [Value.slice.injEq] at hv
    obtain ⟨rfl, rfl, rfl⟩ := hv
    exact ⟨b, o, rfl, rfl, hl, hb, hF⟩
theorem Reads.take {w : World} {b : Option Addr} {n c : Nat} {xs : List Value} {F : Nat → Prop} (h : Reads w (.slice b n c) xs F) (m : Nat) (hm : m ≤ xs.length) (h0 : 0 < xs.length) : Reads w (.slice b m c) (xs.take m) F := by
  rcases h with ⟨hx, _⟩ | ⟨b', o, cap, hv, hl, hb, hF, hc⟩
  · simp [hx] at h0
  · simp only [Value.slice.injEq] at hv
    obtain ⟨rfl, _, rfl⟩ := hv
    have e : (xs.take m).length = m := by simp only [List.length_take]; omega
    refine .inr ⟨b', o, c, by rw [e], by omega, hb, hF, fun i x hi => ?_⟩
    rw [List.getElem?_take] at hi
    split at hi
    · exact hc i x hi
    · cases hi
theorem own_fresh {w : World} {e : TypeId} {b : Option Addr} {l cap : Nat} {xs : List Value} {G : Nat → Prop} (h : Own w e (.slice b l cap) xs G) {n : Nat} (hG : ∀ k, G k → n ≤ k) (_ : True) (hp : 0 < xs.length) : ∃ g, b = some ⟨g, 0, none⟩ ∧ n ≤ g := by
  rcases h.shape with ⟨_, hz⟩ | ⟨g, c', cur, hx, hg, _⟩
  · simp [hz] at hp
  · simp only [Value.slice.injEq] at hx
    exact ⟨g, hx.1, hG g hg⟩
theorem own_just {w : World} {e : TypeId} {g l cap l' : Nat} {xs ys : List Value} {G : Nat → Prop} (h : Own w e (.slice (some ⟨g, 0, none⟩) l cap) xs G) (hl : l = l') (hx : xs = ys) : Own w e (.slice (some ⟨g, 0, none⟩) l' cap) ys (Just g) := by
  subst hl hx
  exact ⟨h.1, fun j hj => by simp [Value.ownBlock] at hj; exact hj.symm⟩
theorem set_size (w : World) (a : Addr) (v : Value) : (w.setCell a v).heap.size = w.heap.size := by simp [World.setCell]
theorem Own.empty_set (w : World) (a : Addr) (v : Value) (e : TypeId) : Own ((w.setCell a v).alloc (.cells #[] e)) e (.slice (some ⟨w.heap.size, 0, none⟩) 0 0) [] (From w.heap.size) := by
  have := Own.empty_new (w.setCell a v) e
  rwa [set_size] at this
theorem more_own {W w' : World} {n : Nat} (hn : W.heap.size = n) {e : TypeId} {b : Option Addr} {l l' cap : Nat} {xs ys : List Value} {G : Nat → Prop} {o : Obj} (h : Own w' e (.slice b l cap) xs G) (hk : Kept (fun k => (Value.slice (some ⟨n, 0, none⟩) 0 0).ownBlock = some k) (W.alloc o) w')
    (hG : ∀ k, G k → W.heap.size ≤ k) (hl : l = l') (hx : xs = ys) : Own w' e (.slice b l' cap) ys (From W.heap.size) ∧ Kept Nob W w' := by
  subst hn hl hx
  exact ⟨h.mono fun k _ hk => hG k hk, (Kept.alloc Nob W o).from (Nat.le_refl _) (hk.mono fun j _ hj => by simp [Value.ownBlock] at hj; show _ ≤ _; omega)⟩
theorem more_own1 {W w3 w' : World} {e : TypeId} {b : Option Addr} {l l' cap g cap' : Nat} {xs ys : List Value} {o : Obj} (h0 : Own w3 e (.slice b l cap) xs (From W.heap.size)) (hk0 : Kept Nob W w3)
    (h : Own w' e (.slice (some ⟨g, 0, none⟩) l' cap') ys (fun k => (Value.slice b l cap).ownBlock = some k ∨ (w3.alloc o).heap.size ≤ k)) (hk : Kept (fun k => (Value.slice b l cap).ownBlock = some k) (w3.alloc o) w') :
    Own w' e (.slice (some ⟨g, 0, none⟩) l' cap') ys (Just g) ∧ W.heap.size ≤ g ∧ Kept Nob W w' := by
  have hs := hk0.size
  refine ⟨own_just h rfl rfl, ?_, (hk0.then (Kept.alloc Nob w3 o)).from (Nat.le_refl _) (hk.mono fun j _ hj => h0.2 j hj)⟩
  rcases h.2 g rfl with hg | hg
  · exact h0.2 g hg
  · simp at hg; omega
namespace Wal
def flat (now : List (List Value)) (s : Nat) : Nat → List Value
  | 0 => []
  | n + 1 => flat now s n ++ now.getD (s + n) []
theorem flat_length {now : List (List Value)} (hS : Dsk.Sectors now) {s : Nat} : ∀ n, s + n ≤ now.length → (flat now s n).length = 64 * n := by
  intro n
  induction n with
  | zero => intro _; rfl
  | succ n ih =>
    intro h
    rw [flat, List.length_append, ih (by omega), (hS.getD (i := s + n) (by omega)).1]
    omega
end Wal
def OwnK (k : Nat) (w : World) (e : TypeId) (v : Value) (n : Nat) (xs : List Value) (F : Nat → Prop) : Prop :=
  w.ownsRow 0 e k v n xs ∧ ∀ g, v.ownBlock = some g → F g
def ReadsK (k : Nat) (w : World) (v : Value) (n : Nat) (xs : List Value) (F : Nat → Prop) : Prop :=
  xs.length = n * k ∧ ((n = 0 ∧ ∃ a cap, v = .slice a 0 cap ∧ (a = none → cap = 0)) ∨
  ∃ b o cap, v = .slice (some ⟨b, o, none⟩) n cap ∧ n ≤ cap ∧ b < w.heap.size ∧ F b ∧ ∀ i x, xs[i]? = some x → w.cell? ⟨b, o + i, none⟩ = some x)
theorem heap_setK (w : World) (b i : Nat) (cs : Array Value) (e : TypeId) (v : Value) (hb : w.heap[b]? = some (.cells cs e (0, 0))) : (w.setCell ⟨b, i, none⟩ v).heap[b]? = some (.cells (cs.setIfInBounds i v) e (0, 0)) :=
  heap_setCell_same w b i cs e v hb
theorem OwnK.nil (k : Nat) (w : World) (e : TypeId) (F : Nat → Prop) : OwnK k w e (.slice none 0 0) 0 [] F := ⟨World.ownsRow_nil w 0 e k, fun g h => by simp [Value.ownBlock] at h⟩
theorem OwnK.mono {k : Nat} {w : World} {e : TypeId} {v : Value} {n : Nat} {xs : List Value} {F G : Nat → Prop} (h : OwnK k w e v n xs F) (hg : ∀ j, j < w.heap.size → F j → G j) : OwnK k w e v n xs G :=
  ⟨h.1, fun g hv => hg g (h.1.lt g hv).2 (h.2 g hv)⟩
theorem OwnK.shape {k : Nat} {w : World} {e : TypeId} {v : Value} {n : Nat} {xs : List Value} {F : Nat → Prop} (h : OwnK k w e v n xs F) :
    (v = .slice none 0 0 ∧ n = 0) ∨ ∃ g cap cur, v = .slice (some ⟨g, 0, none⟩) n cap ∧ F g ∧ g < w.heap.size ∧ n ≤ cap ∧ cap ≤ maxLen ∧ w.heap[g]? = some (.cells cur e (0, 0)) ∧ cur.size = cap * k ∧ cur.toList.take (n * k) = xs := by
  rcases h.1.2 with ⟨hv, hn⟩ | ⟨g, cap, cur, hv, _, hg, hc, hm, hs, ht⟩
  · exact .inl ⟨hv, hn⟩
  · exact .inr ⟨g, cap, cur, hv, h.2 g (by simp [hv, Value.ownBlock]), (Array.getElem?_eq_some_iff.1 hg).1, hc, hm, hg, hs, ht⟩
theorem OwnK.length {k : Nat} {w : World} {e : TypeId} {v : Value} {n : Nat} {xs : List Value} {F : Nat → Prop} (h : OwnK k w e v n xs F) : xs.length = n * k := h.1.1
theorem OwnK.kept {k : Nat} {w w' : World} {e : TypeId} {v : Value} {n : Nat} {xs : List Value} {F : Nat → Prop} (h : OwnK k w e v n xs F) {G : Nat → Prop} (hk : Kept G w w') (hd : ∀ j, F j → ¬ G j) : OwnK k w' e v n xs F := by
  refine ⟨⟨h.1.1, ?_⟩, h.2⟩
  rcases h.shape with ⟨hv, hx⟩ | ⟨g, cap, cur, hv, hF, hlt, hc, hm, hg, hs, ht⟩
  · exact .inl ⟨hv, hx⟩
  · exact .inr ⟨g, cap, cur, hv, Nat.zero_le _, (hk.block g hlt (hd g hF)).trans hg, hc, hm, hs, ht⟩
theorem OwnK.cell {k : Nat} {w : World} {e : TypeId} {n : Nat} {xs : List Value} {F : Nat → Prop} {g m cap : Nat} (h : OwnK k w e (.slice (some ⟨g, 0, none⟩) m cap) n xs F) (i : Nat) (x : Value) (hx : xs[i]? = some x) : w.cell? ⟨g, i, none⟩ = some x := by
  have := h.1.cells (g := g) rfl i x hx
  rwa [show (⟨g, 0, none⟩ : Addr).add i = ⟨g, i, none⟩ from by unfold Addr.add; split <;> simp_all] at this
theorem OwnK.frozen {k : Nat} {w : World} {e : TypeId} {n : Nat} {xs : List Value} {F : Nat → Prop} {g m cap : Nat} (h : OwnK k w e (.slice (some ⟨g, 0, none⟩) m cap) n xs F) (i : Nat) : w.frozen? ⟨g, i, none⟩ = false := by
  rcases h.shape with ⟨hv, _⟩ | ⟨g', cap', cur, hv, _, _, _, _, hg, _, _⟩
  · simp at hv
  · simp only [Value.slice.injEq, Option.some.injEq, Addr.mk.injEq] at hv
    obtain ⟨⟨rfl, _, _⟩, rfl, rfl⟩ := hv
    simp [World.frozen?, hg]
theorem OwnK.len {k : Nat} {w : World} {e : TypeId} {n : Nat} {xs : List Value} {F : Nat → Prop} {a : Option Addr} {m cap : Nat} (h : OwnK k w e (.slice a m cap) n xs F) : m = n := by
  rcases h.shape with ⟨hv, hx⟩ | ⟨g', cap', cur, hv, _⟩
  · simp at hv; simp [hx, hv]
  · simp at hv; exact hv.2.1
theorem OwnK.reads {k : Nat} {w : World} {e : TypeId} {v : Value} {n : Nat} {xs : List Value} {F : Nat → Prop} (h : OwnK k w e v n xs F) : ReadsK k w v n xs F := by
  refine ⟨h.length, ?_⟩
  rcases h.shape with ⟨hv, hx⟩ | ⟨g, cap, cur, hv, hF, hlt, hc, hm, hg, hs, ht⟩
  · exact .inl ⟨hx, none, 0, hv, fun _ => rfl⟩
  · subst hv
    exact .inr ⟨g, 0, cap, rfl, hc, hlt, hF, fun i x hx => by simpa using h.cell i x hx⟩
theorem OwnK.set {k : Nat} {w : World} {e : TypeId} {n : Nat} {xs : List Value} {F : Nat → Prop} {g m cap : Nat} (h : OwnK k w e (.slice (some ⟨g, 0, none⟩) m cap) n xs F) (i : Nat) (u : Value) :
    OwnK k (w.setCell ⟨g, i, none⟩ u) e (.slice (some ⟨g, 0, none⟩) m cap) n (xs.set i u) F := by
  refine ⟨⟨by rw [List.length_set]; exact h.1.1, ?_⟩, h.2⟩
  rcases h.shape with ⟨hv, _⟩ | ⟨g', cap', cur, hv, hF, hlt, hc, hm, hg, hs, ht⟩
  · simp at hv
  · simp only [Value.slice.injEq, Option.some.injEq, Addr.mk.injEq] at hv
    obtain ⟨⟨rfl, _, _⟩, rfl, rfl⟩ := hv
    refine .inr ⟨g, cap, cur.setIfInBounds i u, rfl, Nat.zero_le _, ?_, hc, hm, by simpa using hs, ?_⟩
    · exact heap_setK w g i cur e u hg
    · rw [Array.toList_setIfInBounds, List.take_set, ht]
theorem ReadsK.kept {k : Nat} {w w' : World} {v : Value} {n : Nat} {xs : List Value} {F : Nat → Prop} (h : ReadsK k w v n xs F) {G : Nat → Prop} (hk : Kept G w w') (hd : ∀ j, F j → ¬ G j) : ReadsK k w' v n xs F := by
  refine ⟨h.1, ?_⟩
  rcases h.2 with h | ⟨b, o, cap, hv, hl, hb, hF, hc⟩
  · exact .inl h
  · refine .inr ⟨b, o, cap, hv, hl, Nat.lt_of_lt_of_le hb hk.size, hF, fun i x hx => ?_⟩
    rw [hk.cell hb (hd b hF)]
    exact hc i x hx
theorem ReadsK.mono {k : Nat} {w : World} {v : Value} {n : Nat} {xs : List Value} {F G : Nat → Prop} (h : ReadsK k w v n xs F) (hg : ∀ j, j < w.heap.size → F j → G j) : ReadsK k w v n xs G := by
  refine ⟨h.1, ?_⟩
  rcases h.2 with h | ⟨b, o, cap, hv, hl, hb, hF, hc⟩
  · exact .inl h
  · exact .inr ⟨b, o, cap, hv, hl, hb, hg b hb hF, hc⟩
theorem ReadsK.shape {k : Nat} {w : World} {v : Value} {n : Nat} {xs : List Value} {F : Nat → Prop} (h : ReadsK k w v n xs F) : ∃ a cap, v = .slice a n cap ∧ (a = none ↔ v = .slice none 0 0) := by
  rcases h.2 with ⟨rfl, a, cap, rfl, hn⟩ | ⟨b, o, c, rfl, _⟩
  · refine ⟨a, cap, rfl, fun h => ?_, fun h => ?_⟩
    · rw [h, hn h]
    · simp at h; exact h.1
  · exact ⟨_, c, rfl, by simp⟩
theorem ReadsK.at {k : Nat} {w : World} {a : Option Addr} {m c : Nat} {n : Nat} {xs : List Value} {F : Nat → Prop} (h : ReadsK k w (.slice a m c) n xs F) {i : Nat} (hi : i < n) :
    ∃ b o, a = some ⟨b, o, none⟩ ∧ m = n ∧ b < w.heap.size ∧ F b ∧ ∀ j, j < k → ∃ x, xs[i * k + j]? = some x ∧ w.cell? ⟨b, o + (i * k + j), none⟩ = some x := by
  rcases h.2 with ⟨rfl, _⟩ | ⟨b, o, c', hv, _, hb, hF, hc⟩
  · omega
  · simp at hv
    refine ⟨b, o, hv.1, hv.2.1, hb, hF, fun j hj => ?_⟩
    have hlt : i * k + j < xs.length := by
      rw [h.1]
      have : (i + 1) * k ≤ n * k := Nat.mul_le_mul_right _ hi
      rw [Nat.add_mul, Nat.one_mul] at this
      omega
    exact ⟨_, List.getElem?_eq_getElem hlt, hc _ _ (List.getElem?_eq_getElem hlt)⟩
structure PlainK (P : Program) (k : Nat) (t e : TypeId) (z : Value) (bytes : Nat) : Prop where
  sl : P.underlying t = some (.slice e)
  info : ∃ i, P.info? e = some i ∧ i.zero = some z ∧ i.size = k ∧ i.bytes = bytes
  some' : z.cells.size = k
  pos : 0 < k
theorem PlainK.of {P : Program} {k : Nat} {t e : TypeId} {z : Value} {bytes : Nat} (h1 : P.underlying t = some (.slice e)) (h2 : (P.info? e).map (fun i => (i.zero, i.size, i.bytes)) = some (some z, k, bytes)) (h3 : z.cells.size = k) (h4 : 0 < k) : PlainK P k t e z bytes := by
  obtain ⟨i, a, b, c, d⟩ := info_parts h2
  exact ⟨h1, ⟨i, a, b, c, d⟩, h3, h4⟩
section laws
variable {P : Program} {ops : Array Oper} {rest : List Oper} {o : Oper} {a : Act} {Q : Exit → Act → World → Prop} {w : World}
theorem appendK_law {k : Nat} {t e : TypeId} {z : Value} {bytes : Nat} (T : PlainK P k t e z bytes) {v y : Value} {n m : Nat} {xs news : List Value} {F G : Nat → Prop} (hown : OwnK k w e v n xs F) (hr : ReadsK k w y m news G)
    (h1 : ∀ u ∈ news, u.oneCell' = true) (hsz : (n + m) * (bytes + 1) ≤ 140737488355328) (ty : TypeId) :
    ∃ v' w', (Builtin.append_ #[t, t] ty #[v, y]).run P w = .ok v' w' ∧ OwnK k w' e v' (n + m) (xs ++ news) (fun j => v.ownBlock = some j ∨ w.heap.size ≤ j) ∧ Kept (fun j => v.ownBlock = some j) w w' ∧
      (v' = .slice none 0 0 ↔ v = .slice none 0 0 ∧ m = 0) := by
  obtain ⟨i, hi, hz, hs, hb⟩ := T.info
  have hm : n + m ≤ maxLen := by
    unfold maxLen
    have : (n + m) * 1 ≤ (n + m) * (bytes + 1) := Nat.mul_le_mul_left _ (by omega)
    omega
  have hby : (n + m) * bytes ≤ 140737488355328 := Nat.le_trans (Nat.mul_le_mul_left _ (by omega)) hsz
  rcases hr with ⟨hlen, ⟨rfl, ya, yc, rfl, _⟩ | ⟨b, o', cap, rfl, hcap, hblt, hG, hc⟩⟩
  · have hn : news = [] := List.eq_nil_of_length_eq_zero (by simpa using hlen)
    subst hn
    refine ⟨v, w, ?_, ?_, Kept.refl _ _, by simp⟩
    · rcases hown.shape with ⟨rfl, rfl⟩ | ⟨g, cap, cur, rfl, hF, hlt, hc, hm', hg, hcs, ht⟩
      · cases ya <;> simp [Builtin.append_, run_underlying T.sl, sizeOf, typeInfo, hi, Builtin.lenOf, Builtin.firstCells, loadCells, loadCellsFrom]
      · cases ya <;> simp [Builtin.append_, run_underlying T.sl, sizeOf, typeInfo, hi, Builtin.lenOf, Builtin.firstCells, hc, storeCells, loadCells, loadCellsFrom]
    · simp only [List.append_nil, Nat.add_zero]
      exact ⟨hown.1, fun g hg => .inl hg⟩
  · have hnews : ∀ j u, news[j]? = some u → w.cell? ((⟨b, o', none⟩ : Addr).add j) = some u := fun j u hu => by
      rw [show (⟨b, o', none⟩ : Addr).add j = ⟨b, o' + j, none⟩ from by unfold Addr.add; split <;> simp_all]
      exact hc j u hu
    obtain ⟨v', w', hrun, h2, h3, h4⟩ := run_append_own (P := P) w 0 t ty e i z k bytes T.sl hi hz hs hb T.some' T.pos v n xs hown.1 ⟨b, o', none⟩ m cap news hlen hnews h1 hm hby (Nat.zero_le _)
    refine ⟨v', w', hrun, ⟨h2, fun g hg => ?_⟩, (Kept.grown h3).mono fun x _ h => h.symm ▸ rfl, h4⟩
    by_cases hlt : g < w.heap.size
    · by_cases he : v.ownBlock = some g
      · exact .inl he
      · -- an old block that is not the row's own can't be the new row: the new row's block is the old one, or new
        exfalso
        rcases hown.shape with ⟨rfl, rfl⟩ | ⟨g0, cap0, cur0, rfl, _⟩
        · by_cases h0 : m = 0
          · subst h0
            have hn : news = [] := List.eq_nil_of_length_eq_zero (by simpa using hlen)
            subst hn
            have hrun2 : (Builtin.append_ #[t, t] ty #[.slice none 0 0, .slice (some ⟨b, o', none⟩) 0 cap]).run P w = .ok (.slice none 0 0) w := by
              simp [Builtin.append_, run_underlying T.sl, sizeOf, typeInfo, hi, Builtin.lenOf, Builtin.firstCells, loadCells, loadCellsFrom]
            rw [hrun2] at hrun
            injection hrun with e1 e2
            rw [← e1] at hg
            simp [Value.ownBlock] at hg
          · have hx : xs = [] := List.eq_nil_of_length_eq_zero (by have := hown.length; simpa using this)
            subst hx
            have hr := run_append_nil (P := P) w t ty e i z T.sl hi hz ⟨b, o', none⟩ m cap news (by rw [hs]; exact hlen) hnews (by omega) (by simp only [maxLen] at hm; omega) (by rw [hb]; simp only [Nat.zero_add] at hby; omega)
            rw [hr] at hrun
            injection hrun with e1 e2
            rw [← e1] at hg
            simp [Value.ownBlock] at hg
            omega
        · by_cases hroom : n + m ≤ cap0
          · obtain ⟨g', cap', cur, hv, hF', hlt', hc', hm', hg', hcs, ht⟩ := hown.shape.resolve_left (by rintro ⟨h, _⟩; cases h)
            simp only [Value.slice.injEq, Option.some.injEq, Addr.mk.injEq, and_true, true_and] at hv
            obtain ⟨rfl, rfl⟩ := hv
            have hfit : n * i.size + news.length ≤ cur.size := by rw [hs, hlen, hcs, ← Nat.add_mul]; exact Nat.mul_le_mul_right _ hroom
            have hr := run_append_room (P := P) w t ty e i T.sl hi g0 n cap0 cur hg' ⟨b, o', none⟩ m cap news (by rw [hs]; exact hlen) hnews h1 hroom hfit
            rw [hr] at hrun
            injection hrun with e1 e2
            rw [← e1] at hg
            simp [Value.ownBlock] at hg
            exact he (by simp [Value.ownBlock, hg])
          · have holds : ∀ j u, xs[j]? = some u → w.cell? ((⟨g0, 0, none⟩ : Addr).add j) = some u := hown.1.cells (g := g0) rfl
            have hr := run_append_grow (P := P) w t ty e i z T.sl hi hz ⟨g0, 0, none⟩ n cap0 xs (by rw [hs]; exact hown.length) holds ⟨b, o', none⟩ m cap news (by rw [hs]; exact hlen) hnews (by omega) (by simp only [maxLen] at hm; omega) (by rw [hb]; exact growslice_fits (by omega) hby)
            rw [hr] at hrun
            injection hrun with e1 e2
            rw [← e1] at hg
            simp [Value.ownBlock] at hg
            omega
    · exact .inr (by omega)
theorem wpList_appendK (hgd : o.guard = none) (s x : Operand) (t : TypeId) (ho : o.op = .call { callee := .builtin .append, args := #[s, x], argTypes := #[t, t] })
    {k : Nat} {e : TypeId} {z : Value} {bytes : Nat} (T : PlainK P k t e z bytes) (v y : Value) (n m : Nat) (xs news : List Value) (F G : Nat → Prop) (hs : a.eval s = v) (hx : a.eval x = y) (hown : OwnK k w e v n xs F) (hr : ReadsK k w y m news G)
    (h1 : ∀ u ∈ news, u.oneCell' = true) (hsz : (n + m) * (bytes + 1) ≤ 140737488355328)
    (h : ∀ (b : Option Addr) (cap : Nat) (w' : World), OwnK k w' e (.slice b (n + m) cap) (n + m) (xs ++ news) (fun j => v.ownBlock = some j ∨ w.heap.size ≤ j) → Kept (fun j => v.ownBlock = some j) w w' →
      (Value.slice b (n + m) cap = .slice none 0 0 ↔ v = .slice none 0 0 ∧ m = 0) → wpList P ops Q rest (a.put o.dst (.slice b (n + m) cap)) w') : wpList P ops Q (o :: rest) a w := by
  refine wpList_plain hgd fun K hK => ?_
  obtain ⟨v', w', hrun, h2, h3, h4⟩ := appendK_law T hown hr h1 hsz o.type
  have hsh : ∃ b cap, v' = .slice b (n + m) cap := by
    rcases h2.shape with ⟨rfl, hx⟩ | ⟨g, cap, cur, rfl, _⟩
    · exact ⟨none, 0, by rw [hx]⟩
    · exact ⟨_, cap, rfl⟩
  obtain ⟨b, cap, rfl⟩ := hsh
  unfold Oper.wp execOp
  simp only [ho, resolve, invoke, builtin, Sem.run_bind, Sem.run_pure, Result.andThen_ok, List.map_toArray, List.map_cons, List.map_nil, hs, hx, hrun]
  exact hK _ _ (h b cap w' h2 h3 h4)
theorem wpList_append1K (hgd : o.guard = none) (s x : Operand) (t : TypeId) (ho : o.op = .call { callee := .builtin .append, args := #[s, x], argTypes := #[t, t] })
    {k : Nat} {e : TypeId} {z : Value} {bytes : Nat} (T : PlainK P k t e z bytes) (v : Value) (n : Nat) (xs us : List Value) (F : Nat → Prop) (bb oo c : Nat) (hs : a.eval s = v) (hx : a.eval x = .slice (some ⟨bb, oo, none⟩) 1 c) (hown : OwnK k w e v n xs F)
    (hul : us.length = k) (hc : ∀ i u, us[i]? = some u → w.cell? ⟨bb, oo + i, none⟩ = some u)
    (hc1 : 1 ≤ c) (h1 : ∀ u ∈ us, u.oneCell' = true) (hsz : (n + 1) * (bytes + 1) ≤ 140737488355328)
    (h : ∀ (g : Nat) (cap : Nat) (w' : World), OwnK k w' e (.slice (some ⟨g, 0, none⟩) (n + 1) cap) (n + 1) (xs ++ us) (fun j => v.ownBlock = some j ∨ w.heap.size ≤ j) → Kept (fun j => v.ownBlock = some j) w w' →
      wpList P ops Q rest (a.put o.dst (.slice (some ⟨g, 0, none⟩) (n + 1) cap)) w') : wpList P ops Q (o :: rest) a w := by
  have hpos := T.pos
  have hbb : bb < w.heap.size := by
    obtain ⟨u, hu⟩ : ∃ u, us[0]? = some u := ⟨us[0], List.getElem?_eq_getElem (by omega)⟩
    exact cell_lt (hc 0 u hu)
  refine wpList_appendK hgd s x t ho T v _ n 1 xs us F (fun _ => True) hs hx hown ⟨by rw [hul, Nat.one_mul], .inr ⟨bb, oo, c, rfl, hc1, hbb, trivial, hc⟩⟩ h1 hsz fun b cap w' h2 h3 h4 => ?_
  rcases h2.shape with ⟨hv, hx⟩ | ⟨g, cap', cur, hv, _⟩
  · simp at hx
  · simp only [Value.slice.injEq] at hv
    obtain ⟨rfl, _, rfl⟩ := hv
    exact h g cap w' h2 h3
theorem step_append1K {E : Prop} {K : Act → World → Prop} (hgd : o.guard = none) (s x : Operand) (t : TypeId) (ho : o.op = .call { callee := .builtin .append, args := #[s, x], argTypes := #[t, t] })
    {k : Nat} {e : TypeId} {z : Value} {bytes : Nat} (T : PlainK P k t e z bytes) (v : Value) (n : Nat) (xs us : List Value) (F : Nat → Prop) (bb oo c : Nat) (hs : a.eval s = v) (hx : a.eval x = .slice (some ⟨bb, oo, none⟩) 1 c) (hown : OwnK k w e v n xs F)
    (hul : us.length = k) (hc : ∀ i u, us[i]? = some u → w.cell? ⟨bb, oo + i, none⟩ = some u)
    (hc1 : 1 ≤ c) (h1 : ∀ u ∈ us, u.oneCell' = true) (hsz : (n + 1) * (bytes + 1) ≤ 140737488355328)
    (h : ∀ (g : Nat) (cap : Nat) (w' : World), OwnK k w' e (.slice (some ⟨g, 0, none⟩) (n + 1) cap) (n + 1) (xs ++ us) (fun j => v.ownBlock = some j ∨ w.heap.size ≤ j) → Kept (fun j => v.ownBlock = some j) w w' →
      K (a.put o.dst (.slice (some ⟨g, 0, none⟩) (n + 1) cap)) w') : if Region.wanted o (yielded ops a.tmps) = true then Oper.wp P o a w K Q else E := by
  have hw : Region.wanted o (yielded ops a.tmps) = true := by simp [Region.wanted, hgd]
  rw [if_pos hw]
  have hpos := T.pos
  have hbb : bb < w.heap.size := by
    obtain ⟨u, hu⟩ : ∃ u, us[0]? = some u := ⟨us[0], List.getElem?_eq_getElem (by omega)⟩
    exact cell_lt (hc 0 u hu)
  obtain ⟨v', w', hrun, h2, h3, h4⟩ := appendK_law T hown (y := .slice (some ⟨bb, oo, none⟩) 1 c) (m := 1) (news := us) (G := fun _ => True) ⟨by rw [hul, Nat.one_mul], .inr ⟨bb, oo, c, rfl, hc1, hbb, trivial, hc⟩⟩ h1 hsz o.type
  have hsh : ∃ g cap, v' = .slice (some ⟨g, 0, none⟩) (n + 1) cap := by
    rcases h2.shape with ⟨_, hx⟩ | ⟨g, cap, cur, rfl, _⟩
    · simp at hx
    · exact ⟨g, cap, rfl⟩
  obtain ⟨g, cap, rfl⟩ := hsh
  unfold Oper.wp execOp
  simp only [ho, resolve, invoke, builtin, Sem.run_bind, Sem.run_pure, Result.andThen_ok, List.map_toArray, List.map_cons, List.map_nil, hs, hx, hrun]
  exact h g cap w' h2 h3
end laws
theorem OwnK.alloc {k : Nat} {w : World} {e : TypeId} {v : Value} {n : Nat} {xs : List Value} {F : Nat → Prop} (h : OwnK k w e v n xs F) (o : Obj) : OwnK k (w.alloc o) e v n xs F := h.kept (Kept.alloc Nob w o) (fun _ _ f => f)
theorem ReadsK.alloc {k : Nat} {w : World} {v : Value} {n : Nat} {xs : List Value} {F : Nat → Prop} (h : ReadsK k w v n xs F) (o : Obj) : ReadsK k (w.alloc o) v n xs F := h.kept (Kept.alloc Nob w o) (fun _ _ f => f)
theorem OwnK.blockLt {k : Nat} {w : World} {e : TypeId} {v : Value} {n : Nat} {xs : List Value} {F : Nat → Prop} (h : OwnK k w e v n xs F) {g : Nat} (hg : v.ownBlock = some g) : g < w.heap.size := (h.1.lt g hg).2
theorem OwnK.empty_new {k : Nat} (w : World) (e : TypeId) : OwnK k (w.alloc (.cells #[] e)) e (.slice (some ⟨w.heap.size, 0, none⟩) 0 0) 0 [] (From w.heap.size) :=
  ⟨World.ownsRow_made w #[] 0 (Nat.zero_le _) (Nat.zero_le _) (by simp), fun g hg => by simp [Value.ownBlock] at hg; show _ ≤ _; omega⟩
end Go.Proofs.YthppgchmamonnaaGreatDoor
