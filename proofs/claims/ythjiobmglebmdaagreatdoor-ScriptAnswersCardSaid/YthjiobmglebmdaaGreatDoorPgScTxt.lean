/- Texts in plain words: words between blanks, numbers, points, objects, queries. No program in sight. -/
import Derived.Lib.SplitLaws
import Derived.Lib.AtoiAllCases
import Derived.Lib.ItoaLen
import Derived.Lib.Join
import Derived.Test.YthjiobmglebmdaaGreatDoorPgScGeo
namespace Go.Proofs.YthjiobmglebmdaaGreatDoor.Txt
open Go.Lib
open Go.Proofs.YthjiobmglebmdaaGreatDoor.Geo

/-- a text, cut at every blank -/
def sp : List UInt8 → List (List UInt8)
  | [] => [[]]
  | b :: r => if b = 32 then [] :: sp r else (b :: (sp r).headD []) :: (sp r).tail
theorem sp_free : ∀ (x : List UInt8), (32 : UInt8) ∉ x → sp x = [x]
  | [], _ => rfl
  | b :: r, h => by
    have hb : b ≠ 32 := fun e => h (by simp [e])
    have hr : (32 : UInt8) ∉ r := fun e => h (by simp [e])
    rw [sp, if_neg hb, sp_free r hr]
    rfl
theorem sp_app : ∀ (x r : List UInt8), (32 : UInt8) ∉ x → sp (x ++ 32 :: r) = x :: sp r
  | [], r, _ => by rw [List.nil_append, sp, if_pos rfl]
  | b :: x, r, h => by
    have hb : b ≠ 32 := fun e => h (by simp [e])
    have hr : (32 : UInt8) ∉ x := fun e => h (by simp [e])
    rw [List.cons_append, sp, if_neg hb, sp_app x r hr]
    rfl
theorem sp_tail (x : List UInt8) (hx : (32 : UInt8) ∉ x) : ∀ (r : List (List UInt8)), (∀ y ∈ r, (32 : UInt8) ∉ y) → sp (x ++ joinTail [32] r) = x :: r
  | [], _ => by simp [joinTail, sp_free x hx]
  | y :: r, h => by
    have e : joinTail [32] (y :: r) = 32 :: (y ++ joinTail [32] r) := by simp [joinTail]
    rw [e, sp_app x _ hx]
    induction r generalizing x y with
    | nil => simp [joinTail, sp_free y (h y (by simp))]
    | cons z r ih =>
      have e2 : joinTail [32] (z :: r) = 32 :: (z ++ joinTail [32] r) := by simp [joinTail]
      rw [e2, sp_app y _ (h y (by simp))]
      congr 1
      have := ih y (h y (by simp)) z (fun u hu => h u (by simp at hu ⊢; rcases hu with hu | hu <;> simp [hu])) (by simp [joinTail])
      simpa using this
/-- words without blanks come back -/
theorem sp_join (ws : List (List UInt8)) (h0 : ws ≠ []) (h : ∀ x ∈ ws, (32 : UInt8) ∉ x) : sp (join ws [32]) = ws := by
  cases ws with
  | nil => exact absurd rfl h0
  | cons x r => rw [join_cons]; exact sp_tail x (h x (by simp)) r (fun y hy => h y (by simp [hy]))

theorem index_at (c : UInt8) : ∀ (x r : List UInt8), c ∉ x → index (x ++ c :: r) [c] = x.length
  | [], r, _ => by simp [index]
  | b :: x, r, h => by
    have hb : b ≠ c := fun e => h (by simp [e])
    have hr : c ∉ x := fun e => h (by simp [e])
    have hp : [c].isPrefixOf (b :: (x ++ c :: r)) = false := by simp [List.isPrefixOf]; exact fun e => hb e.symm
    rw [List.cons_append, index, hp, index_at c x r hr]
    have hn : ((x.length : Int) == -1) = false := beq_eq_false_iff_ne.2 (by omega)
    rw [hn]
    simp
theorem index_no (c : UInt8) : ∀ (x : List UInt8), c ∉ x → index x [c] = -1
  | [], _ => by simp [index]
  | b :: x, h => by
    have hb : b ≠ c := fun e => h (by simp [e])
    have hr : c ∉ x := fun e => h (by simp [e])
    have hp : [c].isPrefixOf (b :: x) = false := by simp [List.isPrefixOf]; exact fun e => hb e.symm
    rw [index, hp, index_no c x hr]
    rfl
theorem cut_at (c : UInt8) (x r : List UInt8) (h : c ∉ x) : cut (x ++ c :: r) [c] = (x, r, true) := by
  unfold cut
  rw [index_at c x r h, if_pos (by omega), Int.toNat_natCast]
  simp
theorem cut_no (c : UInt8) (x : List UInt8) (h : c ∉ x) : cut x [c] = (x, [], false) := by
  unfold cut
  rw [index_no c x h, if_neg (by omega)]
theorem split_sp : ∀ (k : Nat) (s : List UInt8), s.count 32 = k → splitK [32] 0 k s = sp s
  | 0, s, h => by rw [sp_free s (List.count_eq_zero.1 h)]; rfl
  | k + 1, s, h => by
    have hm : (32 : UInt8) ∈ s := by
      apply List.count_pos_iff.1
      omega
    obtain ⟨x, r, rfl, hx⟩ := List.eq_append_cons_of_mem hm
    have hc : (x ++ 32 :: r).count 32 = r.count 32 + 1 := by
      rw [List.count_append, List.count_eq_zero.2 hx, List.count_cons_self]; omega
    rw [splitK, index_at 32 x r hx, sp_app x r hx]
    have hn : ((x.length : Int) == -1) = false := beq_eq_false_iff_ne.2 (by omega)
    rw [hn]
    simp only [Bool.false_eq_true, if_false, Int.toNat_natCast, Nat.add_zero]
    have e1 : (x ++ 32 :: r).take x.length = x := List.take_left' rfl
    have e2 : (x ++ 32 :: r).drop (x.length + [(32 : UInt8)].length) = r := by simp
    rw [e1, e2, split_sp k r (by omega)]

/-! numbers -/
theorem digit_toNat {u : Nat} (h : u < 10) : (UInt8.ofNat (48 + u)).toNat = 48 + u := by simp; omega
theorem decDigits_bytes (u : Nat) : ∀ b ∈ decDigits u, 48 ≤ b.toNat ∧ b.toNat ≤ 57 := by
  induction u using Nat.strongRecOn with
  | _ u ih =>
    rw [decDigits]
    split
    · rename_i h
      intro b hb
      simp only [List.mem_singleton] at hb
      subst hb
      rw [digit_toNat h]; omega
    · rename_i h
      intro b hb
      simp only [List.mem_append, List.mem_singleton] at hb
      rcases hb with hb | hb
      · exact ih _ (by omega) b hb
      · subst hb
        rw [digit_toNat (by omega)]; omega
theorem decDigits_ne (u : Nat) : decDigits u ≠ [] := by
  intro h
  have := decDigits_length u
  rw [h] at this
  have := nDigits_pos u
  simp at *
  omega
theorem itoa_bytes (n : Int) : ∀ b ∈ itoa n, b.toNat = 45 ∨ (48 ≤ b.toNat ∧ b.toNat ≤ 57) := by
  intro b hb
  unfold itoa at hb
  split at hb
  · simp only [List.mem_cons] at hb
    rcases hb with rfl | hb
    · exact .inl rfl
    · exact .inr (decDigits_bytes _ b hb)
  · exact .inr (decDigits_bytes _ b hb)
theorem itoa_ne (n : Int) : itoa n ≠ [] := by
  unfold itoa
  split
  · simp
  · exact decDigits_ne _
theorem itoa_free (n : Int) : (32 : UInt8) ∉ itoa n ∧ (44 : UInt8) ∉ itoa n := by
  constructor
  · intro h
    have e : (32 : UInt8).toNat = 32 := rfl
    rcases itoa_bytes n _ h with h | h <;> omega
  · intro h
    have e : (44 : UInt8).toNat = 44 := rfl
    rcases itoa_bytes n _ h with h | h <;> omega
theorem parse_dec (u : Nat) : ∀ (acc : Nat) (t : List UInt8), acc * 10 ^ nDigits u + u < 18446744073709551616 → parseUint10 acc (decDigits u ++ t) = parseUint10 (acc * 10 ^ nDigits u + u) t := by
  induction u using Nat.strongRecOn with
  | _ u ih =>
    intro acc t h
    by_cases h10 : u < 10
    · rw [nDigits_small h10] at h ⊢
      rw [decDigits_one h10, List.singleton_append, parseUint10, digit_toNat h10, if_pos (by omega), if_neg (by omega), if_neg (by omega)]
      congr 1
      omega
    · have hk := nDigits_big h10
      rw [hk, Nat.pow_succ] at h ⊢
      have e : acc * (10 ^ nDigits (u / 10) * 10) = acc * 10 ^ nDigits (u / 10) * 10 := by rw [Nat.mul_assoc]
      rw [e] at h ⊢
      rw [decDigits, dif_neg h10, List.append_assoc, ih (u / 10) (by omega) acc _ (by omega), List.singleton_append, parseUint10, digit_toNat (by omega), if_pos (by omega), if_neg (by omega), if_neg (by omega)]
      congr 1
      omega
theorem parseMag_dec (u : Nat) (h : u < 18446744073709551616) : parseMag (decDigits u) = .ok u := by
  unfold parseMag
  rw [if_neg (decDigits_ne u)]
  have := parse_dec u 0 [] (by omega)
  rw [List.append_nil, Nat.zero_mul, Nat.zero_add] at this
  rw [this]
  rfl
/-- what Itoa writes Atoi reads -/
theorem atoi_itoa (n : Int) (h0 : -9223372036854775808 ≤ n) (h1 : n ≤ 9223372036854775807) : atoiAll (itoa n) = .ok n := by
  by_cases hn : n < 0
  · have e : itoa n = 45 :: decDigits n.natAbs := by unfold itoa; rw [if_pos hn]
    rw [e, atoiAll_minus, parseMag_dec n.natAbs (by omega)]
    unfold signed
    simp only
    rw [if_neg (by omega)]
    congr 1
    omega
  · have e : itoa n = decDigits n.toNat := by unfold itoa; rw [if_neg hn]
    rw [e]
    have hp := parseMag_dec n.toNat (by omega)
    have hb := decDigits_bytes n.toNat
    cases hd : decDigits n.toNat with
    | nil => exact absurd hd (decDigits_ne _)
    | cons b r =>
      rw [hd] at hp hb
      have hbb := hb b (by simp)
      rw [atoiAll_plain b r (by omega) (by omega), hp]
      unfold signless
      simp only
      rw [if_neg (by omega)]
      congr 1
      omega
theorem itoa_inj {m n : Int} (hm : -9223372036854775808 ≤ m ∧ m ≤ 9223372036854775807) (hn : -9223372036854775808 ≤ n ∧ n ≤ 9223372036854775807) (h : itoa m = itoa n) : m = n := by
  have a := atoi_itoa m hm.1 hm.2
  rw [h, atoi_itoa n hn.1 hn.2] at a
  injection a with a
  exact a.symm

/-! points -/
def ptTxt (p : Pt) : List UInt8 := itoa p.1 ++ 44 :: itoa p.2
theorem ptTxt_free (p : Pt) : (32 : UInt8) ∉ ptTxt p := by
  unfold ptTxt
  simp only [List.mem_append, List.mem_cons, not_or]
  exact ⟨(itoa_free p.1).1, by decide, (itoa_free p.2).1⟩
theorem ok_range {p : Pt} (h : ok p = true) : (-9223372036854775808 ≤ p.1 ∧ p.1 ≤ 9223372036854775807) ∧ (-9223372036854775808 ≤ p.2 ∧ p.2 ≤ 9223372036854775807) := by
  rw [ok_iff] at h
  omega
theorem ptTxt_inj {p q : Pt} (hp : ok p = true) (hq : ok q = true) (h : ptTxt p = ptTxt q) : p = q := by
  have a := cut_at 44 (itoa p.1) (itoa p.2) (itoa_free p.1).2
  have b := cut_at 44 (itoa q.1) (itoa q.2) (itoa_free q.1).2
  unfold ptTxt at h
  rw [h, b] at a
  simp only [Prod.mk.injEq] at a
  exact Prod.ext (itoa_inj (ok_range hp).1 (ok_range hq).1 a.1.symm) (itoa_inj (ok_range hp).2 (ok_range hq).2 a.2.1.symm)
theorem pts_inj : ∀ {l m : List Pt}, (∀ p ∈ l, ok p = true) → (∀ p ∈ m, ok p = true) → l.map ptTxt = m.map ptTxt → l = m
  | [], [], _, _, _ => rfl
  | [], _ :: _, _, _, h => by simp at h
  | _ :: _, [], _, _, h => by simp at h
  | p :: l, q :: m, hl, hm, h => by
    simp only [List.map_cons, List.cons.injEq] at h
    rw [ptTxt_inj (hl p (by simp)) (hm q (by simp)) h.1, pts_inj (fun x hx => hl x (by simp [hx])) (fun x hx => hm x (by simp [hx])) h.2]

/-! objects -/
structure Ob where
  kind : Int
  pts : List Pt
structure Bx where
  lo : Pt
  hi : Pt
def BxOk (b : Bx) : Prop := ok b.lo = true ∧ ok b.hi = true ∧ b.lo.1 ≤ b.hi.1 ∧ b.lo.2 ≤ b.hi.2
/-- an object that may be -/
def ObOk (o : Ob) : Prop :=
  (o.kind = 1 ∧ o.pts.length = 1 ∧ (∀ p ∈ o.pts, ok p = true)) ∨
  (o.kind = 2 ∧ ∃ p, o.pts = [p] ∧ ok p = true ∧ p.1 ≤ p.2) ∨
  (o.kind = 3 ∧ ∃ p q, o.pts = [p, q] ∧ BxOk ⟨p, q⟩) ∨
  (o.kind = 4 ∧ RingOk o.pts)
theorem ObOk.pts_ok {o : Ob} (h : ObOk o) : ∀ p ∈ o.pts, ok p = true := by
  rcases h with ⟨_, _, h⟩ | ⟨_, p, hp, h, _⟩ | ⟨_, p, q, hp, h1, h2, _⟩ | ⟨_, h⟩
  · exact h
  · intro x hx; rw [hp] at hx; simp at hx; subst hx; exact h
  · intro x hx; rw [hp] at hx; simp at hx; rcases hx with rfl | rfl <;> assumption
  · exact h.2.2.1
theorem ObOk.len {o : Ob} (h : ObOk o) : 1 ≤ o.pts.length ∧ o.pts.length ≤ 64 := by
  rcases h with ⟨_, h, _⟩ | ⟨_, p, hp, _⟩ | ⟨_, p, q, hp, _⟩ | ⟨_, h⟩
  · omega
  · rw [hp]; simp
  · rw [hp]; simp
  · exact ⟨by have := h.1; omega, h.2.1⟩
def wPoint : List UInt8 := [112, 111, 105, 110, 116]
def wInterval : List UInt8 := [105, 110, 116, 101, 114, 118, 97, 108]
def wBox : List UInt8 := [98, 111, 120]
def wPoly : List UInt8 := [112, 111, 108, 121]
def obWord (k : Int) : List UInt8 := if k = 1 then wPoint else if k = 2 then wInterval else if k = 3 then wBox else wPoly
/-- the words of an object -/
def obWords (o : Ob) : List (List UInt8) :=
  if o.kind = 2 then wInterval :: (o.pts.map fun p => [itoa p.1, itoa p.2]).flatten else obWord o.kind :: o.pts.map ptTxt
open Classical in
/-- the text of an object; empty where it may not be -/
noncomputable def obText (o : Ob) : List UInt8 := if ObOk o then join (obWords o) [32] else []
theorem obWords_free (o : Ob) : ∀ x ∈ obWords o, (32 : UInt8) ∉ x := by
  intro x hx
  unfold obWords at hx
  split at hx
  · simp only [List.mem_cons, List.mem_flatten, List.mem_map] at hx
    rcases hx with rfl | ⟨l, ⟨p, _, rfl⟩, hx⟩
    · decide
    · simp at hx
      rcases hx with rfl | rfl
      · exact (itoa_free p.1).1
      · exact (itoa_free p.2).1
  · simp only [List.mem_cons, List.mem_map] at hx
    rcases hx with rfl | ⟨p, _, rfl⟩
    · unfold obWord
      by_cases h1 : o.kind = 1
      · rw [if_pos h1]; decide
      · rw [if_neg h1]
        by_cases h2 : o.kind = 2
        · rw [if_pos h2]; decide
        · rw [if_neg h2]
          by_cases h3 : o.kind = 3
          · rw [if_pos h3]; decide
          · rw [if_neg h3]; decide
    · exact ptTxt_free p
theorem obWord_ne (k : Int) : obWord k ≠ [] := by
  unfold obWord
  by_cases h1 : k = 1
  · rw [if_pos h1]; decide
  · rw [if_neg h1]
    by_cases h2 : k = 2
    · rw [if_pos h2]; decide
    · rw [if_neg h2]
      by_cases h3 : k = 3
      · rw [if_pos h3]; decide
      · rw [if_neg h3]; decide
theorem obWords_ne (o : Ob) : obWords o ≠ [] := by
  unfold obWords; split <;> simp
theorem sp_obText {o : Ob} (h : ObOk o) : sp (obText o) = obWords o := by
  unfold obText
  rw [if_pos h]
  exact sp_join _ (obWords_ne o) (obWords_free o)
theorem obText_ne {o : Ob} (h : ObOk o) : obText o ≠ [] := by
  intro e
  have := sp_obText h
  rw [e] at this
  simp only [sp] at this
  have hw : ([] : List UInt8) ∉ obWords o := by
    intro h0
    unfold obWords at h0
    split at h0
    · simp only [List.mem_cons, List.mem_flatten, List.mem_map] at h0
      rcases h0 with h0 | ⟨l, ⟨p, _, rfl⟩, h0⟩
      · exact absurd h0 (by decide)
      · simp at h0
        rcases h0 with h0 | h0
        · exact itoa_ne _ h0
        · exact itoa_ne _ h0
    · simp only [List.mem_cons, List.mem_map] at h0
      rcases h0 with h0 | ⟨p, _, h0⟩
      · exact obWord_ne _ h0.symm
      · simp [ptTxt] at h0
  rw [← this] at hw
  simp at hw
theorem obText_no {o : Ob} (h : ¬ ObOk o) : obText o = [] := by
  unfold obText; rw [if_neg h]
theorem obText_iff {o : Ob} : obText o ≠ [] ↔ ObOk o := ⟨fun h => Classical.byContradiction fun hn => h (obText_no hn), obText_ne⟩
theorem obText_inj {a b : Ob} (ha : ObOk a) (hb : ObOk b) (h : obText a = obText b) : a = b := by
  have hw : obWords a = obWords b := by rw [← sp_obText ha, ← sp_obText hb, h]
  have pa := ha.pts_ok
  have pb := hb.pts_ok
  have w1 : wPoint ≠ wInterval := by decide
  have w2 : wPoint ≠ wBox := by decide
  have w3 : wPoint ≠ wPoly := by decide
  have w4 : wInterval ≠ wBox := by decide
  have w5 : wInterval ≠ wPoly := by decide
  have w6 : wBox ≠ wPoly := by decide
  obtain ⟨ka, la⟩ := a
  obtain ⟨kb, lb⟩ := b
  have cases4 : ∀ {o : Ob}, ObOk o → o.kind = 1 ∨ o.kind = 2 ∨ o.kind = 3 ∨ o.kind = 4 := by
    intro o h
    rcases h with h | h | h | h
    · exact .inl h.1
    · exact .inr (.inl h.1)
    · exact .inr (.inr (.inl h.1))
    · exact .inr (.inr (.inr h.1))
  have hka := cases4 ha
  have hkb := cases4 hb
  simp only at hka hkb pa pb
  have same : ka = kb := by
    unfold obWords obWord at hw
    rcases hka with rfl | rfl | rfl | rfl <;> rcases hkb with rfl | rfl | rfl | rfl <;> simp at hw <;> first | rfl | (exact absurd hw.1 (by decide))
  subst same
  congr 1
  by_cases h2 : ka = 2
  · subst h2
    rcases ha with ⟨h, _⟩ | ⟨_, p, hp, okp, _⟩ | ⟨h, _⟩ | ⟨h, _⟩
    · simp at h
    · rcases hb with ⟨h, _⟩ | ⟨_, q, hq, okq, _⟩ | ⟨h, _⟩ | ⟨h, _⟩
      · simp at h
      · simp only at hp hq
        subst hp hq
        simp [obWords] at hw
        have r1 := ok_range okp
        have r2 := ok_range okq
        rw [Prod.ext (itoa_inj r1.1 r2.1 hw.1) (itoa_inj r1.2 r2.2 hw.2)]
      · simp at h
      · simp at h
    · simp at h
    · simp at h
  · unfold obWords at hw
    simp only [h2, if_false, List.cons.injEq, true_and] at hw
    exact pts_inj pa pb hw
end Go.Proofs.YthjiobmglebmdaaGreatDoor.Txt
