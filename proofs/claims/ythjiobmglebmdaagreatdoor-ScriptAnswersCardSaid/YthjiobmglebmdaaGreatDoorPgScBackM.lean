/- Texts in plain words: what a text becomes with one byte more is the text of no object. No program in sight. -/
import Derived.Test.YthjiobmglebmdaaGreatDoorPgScTxt
namespace Go.Proofs.YthjiobmglebmdaaGreatDoor.Txt
open Go.Lib
open Go.Proofs.YthjiobmglebmdaaGreatDoor.Geo

theorem join_snoc (ws : List (List UInt8)) (h : ws ≠ []) (y : List UInt8) : join (ws ++ [y]) [32] = join ws [32] ++ 32 :: y := by
  cases ws with
  | nil => exact absurd rfl h
  | cons x r =>
    rw [List.cons_append, join_cons, join_cons]
    simp [joinTail]
theorem join_more (ws : List (List UInt8)) (y z : List UInt8) : join (ws ++ [y]) [32] ++ z = join (ws ++ [y ++ z]) [32] := by
  cases ws with
  | nil => simp [join_one]
  | cons x r =>
    rw [List.cons_append, List.cons_append, join_cons, join_cons]
    simp [joinTail]
/-- the words behind the first one -/
def obTail (o : Ob) : List (List UInt8) := if o.kind = 2 then (o.pts.map fun p => [itoa p.1, itoa p.2]).flatten else o.pts.map ptTxt
theorem obWords_eq (o : Ob) : obWords o = obWord o.kind :: obTail o := by
  unfold obWords obTail
  by_cases h : o.kind = 2
  · rw [if_pos h, if_pos h, h]; rfl
  · rw [if_neg h, if_neg h]
theorem ObOk.four {o : Ob} (h : ObOk o) : o.kind = 1 ∨ o.kind = 2 ∨ o.kind = 3 ∨ o.kind = 4 := by
  rcases h with h | h | h | h
  · exact .inl h.1
  · exact .inr (.inl h.1)
  · exact .inr (.inr (.inl h.1))
  · exact .inr (.inr (.inr h.1))
theorem obWord_inj {a b : Ob} (ha : ObOk a) (hb : ObOk b) (h : obWord a.kind = obWord b.kind) : a.kind = b.kind := by
  rcases ha.four with h1 | h1 | h1 | h1 <;> rcases hb.four with h2 | h2 | h2 | h2 <;> rw [h1, h2] at h ⊢ <;> exact absurd h (by decide)
/-- what may stand in a word behind the first one -/
def numB (b : UInt8) : Prop := b.toNat = 44 ∨ b.toNat = 45 ∨ (48 ≤ b.toNat ∧ b.toNat ≤ 57)
theorem numB_itoa (n : Int) : ∀ b ∈ itoa n, numB b := fun b hb => by
  rcases itoa_bytes n b hb with h | h
  · exact .inr (.inl h)
  · exact .inr (.inr h)
theorem numB_pt (p : Pt) : ∀ b ∈ ptTxt p, numB b := fun b hb => by
  unfold ptTxt at hb
  simp only [List.mem_append, List.mem_cons] at hb
  rcases hb with hb | rfl | hb
  · exact numB_itoa _ b hb
  · exact .inl rfl
  · exact numB_itoa _ b hb
theorem obTail_two {o : Ob} (h : ObOk o) (h2 : o.kind = 2) : ∃ m n : Int, obTail o = [itoa m, itoa n] := by
  rcases h with ⟨h, _⟩ | ⟨_, p, hp, _⟩ | ⟨h, _⟩ | ⟨h, _⟩
  · omega
  · exact ⟨p.1, p.2, by unfold obTail; rw [if_pos h2, hp]; rfl⟩
  · omega
  · omega
theorem obTail_else {o : Ob} (h2 : o.kind ≠ 2) : obTail o = o.pts.map ptTxt := by unfold obTail; rw [if_neg h2]
theorem obTail_bytes {o : Ob} (h : ObOk o) : ∀ x ∈ obTail o, x ≠ [] ∧ ∀ b ∈ x, numB b := by
  intro x hx
  by_cases h2 : o.kind = 2
  · obtain ⟨m, n, e⟩ := obTail_two h h2
    rw [e] at hx
    simp only [List.mem_cons, List.not_mem_nil, or_false] at hx
    rcases hx with rfl | rfl
    · exact ⟨itoa_ne _, numB_itoa _⟩
    · exact ⟨itoa_ne _, numB_itoa _⟩
  · rw [obTail_else h2, List.mem_map] at hx
    obtain ⟨p, _, rfl⟩ := hx
    exact ⟨by simp [ptTxt], numB_pt p⟩
theorem count_pt (p : Pt) : (ptTxt p).count 44 = 1 := by
  unfold ptTxt
  rw [List.count_append, List.count_eq_zero.2 (itoa_free p.1).2, List.count_cons_self, List.count_eq_zero.2 (itoa_free p.2).2]
theorem obTail_ne {o : Ob} (h : ObOk o) : obTail o ≠ [] := by
  by_cases h2 : o.kind = 2
  · obtain ⟨m, n, e⟩ := obTail_two h h2
    rw [e]; simp
  · rw [obTail_else h2]
    intro e
    have h1 := h.len.1
    have h2 : o.pts = [] := by simpa using e
    rw [h2] at h1
    simp at h1
theorem obText_words {o : Ob} (h : ObOk o) : obText o = join (obWord o.kind :: obTail o) [32] := by
  unfold obText; rw [if_pos h, obWords_eq]
theorem obTail_free (o : Ob) : ∀ x ∈ obTail o, (32 : UInt8) ∉ x := fun x hx => obWords_free o x (by rw [obWords_eq]; simp [hx])
theorem obWord_free (k : Int) : (32 : UInt8) ∉ obWord k := by
  have := obWords_free ⟨k, []⟩ (obWord k) (by rw [obWords_eq]; simp)
  exact this
theorem obWord_head (k : Int) : ∃ b r, obWord k = b :: r ∧ b ≠ 43 := by
  unfold obWord
  by_cases h1 : k = 1
  · rw [if_pos h1]; exact ⟨_, _, rfl, by decide⟩
  · rw [if_neg h1]
    by_cases h2 : k = 2
    · rw [if_pos h2]; exact ⟨_, _, rfl, by decide⟩
    · rw [if_neg h2]
      by_cases h3 : k = 3
      · rw [if_pos h3]; exact ⟨_, _, rfl, by decide⟩
      · rw [if_neg h3]; exact ⟨_, _, rfl, by decide⟩
/-- a blank ahead -/
theorem no_blank {o p : Ob} (hp : ObOk p) (s : List UInt8) (_h : s = obText o) : obText p ≠ 32 :: s := by
  intro e
  have h1 := sp_obText hp
  rw [e, obWords_eq] at h1
  simp only [sp, if_true, List.cons.injEq] at h1
  exact obWord_ne _ h1.1.symm
/-- a sign ahead -/
theorem no_sign {o p : Ob} (ho : ObOk o) (hp : ObOk p) : obText p ≠ 43 :: obText o := by
  intro e
  have h1 := sp_obText hp
  have e2 : (43 : UInt8) :: obText o = join ((43 :: obWord o.kind) :: obTail o) [32] := by
    rw [obText_words ho, join_cons, join_cons]; rfl
  rw [e, e2, sp_join _ (by simp) (by
    intro x hx
    simp only [List.mem_cons] at hx
    rcases hx with rfl | hx
    · intro hm
      simp only [List.mem_cons] at hm
      rcases hm with hm | hm
      · exact absurd hm (by decide)
      · exact obWord_free _ hm
    · exact obTail_free o x hx), obWords_eq] at h1
  simp only [List.cons.injEq] at h1
  obtain ⟨b, r, hb, hne⟩ := obWord_head p.kind
  rw [hb, List.cons.injEq] at h1
  exact hne h1.1.1.symm
/-- a word more -/
theorem no_word {o p : Ob} (ho : ObOk o) (hp : ObOk p) (x : List UInt8) (hx : x = [] ∨ x = [48]) : obText p ≠ obText o ++ 32 :: x := by
  intro e
  have h1 := sp_obText hp
  have hfx : (32 : UInt8) ∉ x := by rcases hx with rfl | rfl <;> simp
  rw [e, obText_words ho, ← join_snoc _ (by simp), List.cons_append, sp_join _ (by simp) (by
    intro y hy
    simp only [List.mem_cons, List.mem_append, List.not_mem_nil, or_false] at hy
    rcases hy with rfl | hy | rfl
    · exact obWord_free _
    · exact obTail_free o y hy
    · exact hfx), obWords_eq] at h1
  simp only [List.cons.injEq] at h1
  obtain ⟨hk, ht⟩ := h1
  have hk := obWord_inj ho hp hk
  have hm : x ∈ obTail p := by rw [← ht]; simp
  rcases hx with rfl | rfl
  · exact (obTail_bytes hp _ hm).1 rfl
  · by_cases h2 : o.kind = 2
    · obtain ⟨a, b, e1⟩ := obTail_two ho h2
      obtain ⟨c, d, e2⟩ := obTail_two hp (hk ▸ h2)
      rw [e1, e2] at ht
      have := congrArg List.length ht
      simp at this
    · rw [obTail_else (fun h => h2 (hk.trans h)), List.mem_map] at hm
      obtain ⟨q, _, hq⟩ := hm
      have := count_pt q
      rw [hq] at this
      simp at this
/-- a byte more -/
theorem no_byte {o p : Ob} (ho : ObOk o) (hp : ObOk p) (b : UInt8) (hb : b = 44 ∨ b = 120) : obText p ≠ obText o ++ [b] := by
  intro e
  have h1 := sp_obText hp
  have hb32 : b ≠ 32 := by rcases hb with rfl | rfl <;> decide
  obtain ⟨ini, y, hy⟩ : ∃ ini y, obTail o = ini ++ [y] := ⟨_, _, (List.dropLast_concat_getLast (obTail_ne ho)).symm⟩
  have hym : y ∈ obTail o := by rw [hy]; simp
  rw [e, obText_words ho, hy, ← List.cons_append, join_more, List.cons_append, sp_join _ (by simp) (by
    intro z hz
    simp only [List.mem_cons, List.mem_append, List.not_mem_nil, or_false] at hz
    rcases hz with rfl | hz | rfl
    · exact obWord_free _
    · exact obTail_free o z (by rw [hy]; simp [hz])
    · intro hm
      simp only [List.mem_append, List.mem_cons, List.not_mem_nil, or_false] at hm
      rcases hm with hm | hm
      · exact obTail_free o y hym hm
      · exact hb32 hm.symm), obWords_eq] at h1
  simp only [List.cons.injEq] at h1
  obtain ⟨hk, ht⟩ := h1
  have hk := obWord_inj ho hp hk
  have hm : y ++ [b] ∈ obTail p := by rw [← ht]; simp
  rcases hb with rfl | rfl
  · by_cases h2 : o.kind = 2
    · obtain ⟨c, d, e2⟩ := obTail_two hp (hk ▸ h2)
      rw [e2] at hm
      simp only [List.mem_cons, List.not_mem_nil, or_false] at hm
      rcases hm with hm | hm
      · exact (itoa_free c).2 (hm ▸ by simp)
      · exact (itoa_free d).2 (hm ▸ by simp)
    · rw [obTail_else (fun h => h2 (hk.trans h)), List.mem_map] at hm
      obtain ⟨q, _, hq⟩ := hm
      rw [obTail_else h2, List.mem_map] at hym
      obtain ⟨r, _, hr⟩ := hym
      have c1 := count_pt q
      have c2 := count_pt r
      rw [hq, ← hr, List.count_append, c2] at c1
      simp at c1
  · have := (obTail_bytes hp _ hm).2 120 (by simp)
    rcases this with h | h | h
    · exact absurd h (by decide)
    · exact absurd h (by decide)
    · exact absurd h.2 (by decide)
/-- the six texts of the law: none is an object's -/
theorem no_six {o : Ob} (ho : ObOk o) (t : List UInt8) (ht : t ∈ [32 :: obText o, obText o ++ [32], obText o ++ [32, 48], 43 :: obText o, obText o ++ [44], obText o ++ [120]]) : ∀ p, ObOk p → obText p ≠ t := by
  intro p hp
  simp only [List.mem_cons, List.not_mem_nil, or_false] at ht
  rcases ht with rfl | rfl | rfl | rfl | rfl | rfl
  · exact no_blank (o := o) hp _ rfl
  · exact no_word ho hp [] (.inl rfl)
  · exact no_word ho hp [48] (.inr rfl)
  · exact no_sign ho hp
  · exact no_byte ho hp 44 (.inl rfl)
  · exact no_byte ho hp 120 (.inr rfl)
end Go.Proofs.YthjiobmglebmdaaGreatDoor.Txt
