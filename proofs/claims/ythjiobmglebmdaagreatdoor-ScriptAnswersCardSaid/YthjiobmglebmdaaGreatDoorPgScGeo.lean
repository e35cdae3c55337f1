/- The plane in plain words: points, turns, segments, rings; two ways to say that a ring is simple come to the same. No program in sight. -/
import Derived.WalkKit
namespace Go.Proofs.YthjiobmglebmdaaGreatDoor.Geo

abbrev Pt := Int × Int
def okC (n : Int) : Bool := decide (-1073741823 ≤ n) && decide (n ≤ 1073741823)
def ok (p : Pt) : Bool := okC p.1 && okC p.2
theorem ok_iff {p : Pt} : ok p = true ↔ -1073741823 ≤ p.1 ∧ p.1 ≤ 1073741823 ∧ -1073741823 ≤ p.2 ∧ p.2 ≤ 1073741823 := by
  simp [ok, okC, and_assoc]
/-- twice the area of three points -/
def cr (a b c : Pt) : Int := (b.1 - a.1) * (c.2 - a.2) - (b.2 - a.2) * (c.1 - a.1)
def dt (a b c : Pt) : Int := (b.1 - a.1) * (c.1 - a.1) + (b.2 - a.2) * (c.2 - a.2)
def sg (x : Int) : Int := if x < 0 then -1 else if 0 < x then 1 else 0
def inBox (a b p : Pt) : Bool := decide (min a.1 b.1 ≤ p.1) && decide (p.1 ≤ max a.1 b.1) && decide (min a.2 b.2 ≤ p.2) && decide (p.2 ≤ max a.2 b.2)
def on (a b p : Pt) : Bool := decide (cr a b p = 0) && inBox a b p
def proper (a b c d : Pt) : Bool := decide (sg (cr a b c) * sg (cr a b d) < 0) && decide (sg (cr c d a) * sg (cr c d b) < 0)
def meet (a b c d : Pt) : Bool := proper a b c d || on a b c || on a b d || on c d a || on c d b
def over (a c b : Pt) : Bool := decide (a ≠ c) && decide (b ≠ c) && decide (cr c a b = 0) && decide (0 < dt c a b)

theorem mul_bound {x y B : Int} (hB : 0 ≤ B) (h1 : -B ≤ x) (h2 : x ≤ B) (h3 : -B ≤ y) (h4 : y ≤ B) : -(B * B) ≤ x * y ∧ x * y ≤ B * B := by
  have hx : x.natAbs ≤ B.toNat := by omega
  have hy : y.natAbs ≤ B.toNat := by omega
  have h := Nat.mul_le_mul hx hy
  rw [← Int.natAbs_mul] at h
  have e : ((B.toNat * B.toNat : Nat) : Int) = B * B := by rw [Int.natCast_mul, Int.toNat_of_nonneg hB]
  omega
/-- no word of a turn runs over -/
theorem cr_bound {a b c : Pt} (ha : ok a = true) (hb : ok b = true) (hc : ok c = true) :
    (-4611686009837453316 ≤ (b.1 - a.1) * (c.2 - a.2) ∧ (b.1 - a.1) * (c.2 - a.2) ≤ 4611686009837453316) ∧ (-4611686009837453316 ≤ (b.2 - a.2) * (c.1 - a.1) ∧ (b.2 - a.2) * (c.1 - a.1) ≤ 4611686009837453316) := by
  rw [ok_iff] at ha hb hc
  exact ⟨mul_bound (B := 2147483646) (by omega) (by omega) (by omega) (by omega) (by omega), mul_bound (B := 2147483646) (by omega) (by omega) (by omega) (by omega) (by omega)⟩
theorem dt_bound {a b c : Pt} (ha : ok a = true) (hb : ok b = true) (hc : ok c = true) :
    (-4611686009837453316 ≤ (b.1 - a.1) * (c.1 - a.1) ∧ (b.1 - a.1) * (c.1 - a.1) ≤ 4611686009837453316) ∧ (-4611686009837453316 ≤ (b.2 - a.2) * (c.2 - a.2) ∧ (b.2 - a.2) * (c.2 - a.2) ≤ 4611686009837453316) := by
  rw [ok_iff] at ha hb hc
  exact ⟨mul_bound (B := 2147483646) (by omega) (by omega) (by omega) (by omega) (by omega), mul_bound (B := 2147483646) (by omega) (by omega) (by omega) (by omega) (by omega)⟩

/-! two edges with a corner in common -/
theorem sq_nonneg (x : Int) : 0 ≤ x * x := by
  rcases Int.le_total 0 x with h | h
  · exact Int.mul_nonneg h h
  · exact Int.mul_nonneg_of_nonpos_of_nonpos h h
theorem same_sign {p q x : Int} (h : p * q = x * x) (hs : 0 < p + q) : 0 ≤ p ∧ 0 ≤ q := by
  have h0 := sq_nonneg x
  rw [← h] at h0
  by_cases hp : p < 0
  · have : p * q < 0 := Int.mul_neg_of_neg_of_pos hp (by omega)
    omega
  · by_cases hq : q < 0
    · have : p * q < 0 := Int.mul_neg_of_pos_of_neg (by omega) hq
      omega
    · omega
theorem pos_of {x y : Int} (h : 0 ≤ x * y) : (0 ≤ x ∧ 0 ≤ y) ∨ (x ≤ 0 ∧ y ≤ 0) := by
  by_cases hx : x < 0
  · by_cases hy : 0 < y
    · have := Int.mul_neg_of_neg_of_pos hx hy; omega
    · exact .inr ⟨by omega, by omega⟩
  · by_cases hy : y < 0
    · by_cases h0 : x = 0
      · exact .inr ⟨by omega, by omega⟩
      · have := Int.mul_neg_of_pos_of_neg (a := x) (b := y) (by omega) hy; omega
    · exact .inl ⟨by omega, by omega⟩
theorem nat_fit {X Y x y : Nat} (h : X * y = Y * x) : (x ≤ X ∧ y ≤ Y) ∨ (X ≤ x ∧ Y ≤ y) := by
  by_cases hx : x ≤ X
  · by_cases hy : y ≤ Y
    · exact .inl ⟨hx, hy⟩
    · have hy' : Y + 1 ≤ y := by omega
      have a := Nat.mul_le_mul_left X hy'
      have b := Nat.mul_le_mul_left Y hx
      rw [Nat.mul_add, Nat.mul_one, Nat.mul_comm X Y] at a
      have : X = 0 := by omega
      exact .inr ⟨by omega, by omega⟩
  · by_cases hy : Y ≤ y
    · exact .inr ⟨by omega, hy⟩
    · have hy' : y + 1 ≤ Y := by omega
      have a := Nat.mul_le_mul_right x hy'
      have b := Nat.mul_le_mul_right y (show X ≤ x by omega)
      rw [Nat.add_mul, Nat.one_mul, Nat.mul_comm y x] at a
      omega
theorem mul_pos' {x y : Int} (h : (0 ≤ x ∧ 0 ≤ y) ∨ (x ≤ 0 ∧ y ≤ 0)) : 0 ≤ x * y := by
  rcases h with h | h
  · exact Int.mul_nonneg h.1 h.2
  · exact Int.mul_nonneg_of_nonpos_of_nonpos h.1 h.2
theorem mul_pos'' {x y : Int} (h : (0 < x ∧ 0 < y) ∨ (x < 0 ∧ y < 0)) : 0 < x * y := by
  rcases h with h | h
  · exact Int.mul_pos h.1 h.2
  · exact Int.mul_pos_of_neg_of_neg h.1 h.2
/-- v within u's box, or u within v's, just where they go the same way -/
theorem along {ux uy vx vy : Int} (hu : ¬ (ux = 0 ∧ uy = 0)) (hv : ¬ (vx = 0 ∧ vy = 0)) (hc : ux * vy = uy * vx) :
    ((min ux 0 ≤ vx ∧ vx ≤ max ux 0 ∧ min uy 0 ≤ vy ∧ vy ≤ max uy 0) ∨ (min vx 0 ≤ ux ∧ ux ≤ max vx 0 ∧ min vy 0 ≤ uy ∧ uy ≤ max vy 0)) ↔ 0 < ux * vx + uy * vy := by
  constructor
  · rintro (⟨a, b, c, d⟩ | ⟨a, b, c, d⟩)
    · have p1 : 0 ≤ ux * vx := mul_pos' (by omega)
      have p2 : 0 ≤ uy * vy := mul_pos' (by omega)
      by_cases h0 : vx = 0
      · have : 0 < uy * vy := mul_pos'' (by omega)
        omega
      · have : 0 < ux * vx := mul_pos'' (by omega)
        omega
    · have p1 : 0 ≤ ux * vx := mul_pos' (by omega)
      have p2 : 0 ≤ uy * vy := mul_pos' (by omega)
      by_cases h0 : ux = 0
      · have : 0 < uy * vy := mul_pos'' (by omega)
        omega
      · have : 0 < ux * vx := mul_pos'' (by omega)
        omega
  · intro h
    have hs : ux * vx * (uy * vy) = (ux * vy) * (ux * vy) := by
      have e : ux * vx * (uy * vy) = (ux * vy) * (uy * vx) := by
        rw [Int.mul_assoc, Int.mul_assoc]; congr 1
        rw [← Int.mul_assoc, Int.mul_comm vx uy, Int.mul_assoc, Int.mul_comm vx vy, ← Int.mul_assoc, Int.mul_comm uy vy, Int.mul_assoc]
      rw [e, ← hc]
    obtain ⟨p1, p2⟩ := same_sign hs h
    have s1 := pos_of p1
    have s2 := pos_of p2
    have hn : ux.natAbs * vy.natAbs = uy.natAbs * vx.natAbs := by rw [← Int.natAbs_mul, ← Int.natAbs_mul, hc]
    have hf := nat_fit hn
    omega

theorem cr_move (a b d : Pt) : cr a b d = - ((a.1 - b.1) * (d.2 - b.2) - (a.2 - b.2) * (d.1 - b.1)) := by
  unfold cr
  have e1 : d.2 - a.2 = (d.2 - b.2) - (a.2 - b.2) := by omega
  have e2 : d.1 - a.1 = (d.1 - b.1) - (a.1 - b.1) := by omega
  have e3 : b.1 - a.1 = - (a.1 - b.1) := by omega
  have e4 : b.2 - a.2 = - (a.2 - b.2) := by omega
  rw [e1, e2, e3, e4]
  generalize a.1 - b.1 = x
  generalize a.2 - b.2 = y
  generalize d.1 - b.1 = z
  generalize d.2 - b.2 = t
  rw [Int.mul_sub, Int.mul_sub, Int.neg_mul, Int.neg_mul, Int.neg_mul, Int.neg_mul, Int.mul_comm y x]
  omega
theorem cr_turn (b a d : Pt) : cr b d a = - cr b a d := by
  unfold cr
  rw [Int.mul_comm (d.1 - b.1), Int.mul_comm (d.2 - b.2)]
  omega
/-- the edges a b and b d, no two of the three alike -/
theorem corner {a b d : Pt} (hab : a ≠ b) (hdb : d ≠ b) : (on a b d || on b d a) = over a b d := by
  have hu : ¬ (a.1 - b.1 = 0 ∧ a.2 - b.2 = 0) := fun h => hab (Prod.ext (by omega) (by omega))
  have hv : ¬ (d.1 - b.1 = 0 ∧ d.2 - b.2 = 0) := fun h => hdb (Prod.ext (by omega) (by omega))
  have m1 := cr_move a b d
  have m2 : cr b a d = (a.1 - b.1) * (d.2 - b.2) - (a.2 - b.2) * (d.1 - b.1) := rfl
  have m3 := cr_turn b a d
  rw [Bool.eq_iff_iff]
  simp only [on, over, inBox, Bool.or_eq_true, Bool.and_eq_true, decide_eq_true_eq]
  by_cases hc : cr b a d = 0
  · have h := along hu hv (show (a.1 - b.1) * (d.2 - b.2) = (a.2 - b.2) * (d.1 - b.1) by omega)
    have hd : dt b a d = (a.1 - b.1) * (d.1 - b.1) + (a.2 - b.2) * (d.2 - b.2) := rfl
    rw [hd]
    constructor
    · rintro (⟨-, h1⟩ | ⟨-, h1⟩)
      · exact ⟨⟨⟨hab, hdb⟩, hc⟩, h.1 (.inl (by omega))⟩
      · exact ⟨⟨⟨hab, hdb⟩, hc⟩, h.1 (.inr (by omega))⟩
    · rintro ⟨-, h1⟩
      rcases h.2 h1 with g | g
      · exact .inl ⟨by omega, by omega⟩
      · exact .inr ⟨by omega, by omega⟩
  · constructor
    · rintro (⟨h1, -⟩ | ⟨h1, -⟩)
      · exact absurd (by omega) hc
      · exact absurd (by omega) hc
    · rintro ⟨⟨-, h1⟩, -⟩
      exact absurd h1 hc

/-- two edges that spoil a ring, as the program asks: from the corners i and k on; f: k is behind i; g: i is behind k -/
def spoil4 (a b c d : Pt) (f g : Bool) : Bool :=
  if a = c then true else if f then on a b d || on c d a else if g then on c d b || on a b c else meet a b c d
/-- the same, as the document's own answer asks, for i below k; f: k is i + 1; g: i is 0, and k the last -/
def clash4 (a b c d : Pt) (f g : Bool) : Bool := if f then over a b d else if g then over b a c else meet a b c d

def nx (n i : Nat) : Nat := (i + 1) % n
def spoil (l : List Pt) (i k : Nat) : Bool :=
  spoil4 (l.getD i (0, 0)) (l.getD (nx l.length i) (0, 0)) (l.getD k (0, 0)) (l.getD (nx l.length k) (0, 0)) (decide (nx l.length i = k)) (decide (nx l.length k = i))
def clash (l : List Pt) (i k : Nat) : Bool :=
  clash4 (l.getD i (0, 0)) (l.getD (i + 1) (0, 0)) (l.getD k (0, 0)) (l.getD (nx l.length k) (0, 0)) (decide (k = i + 1)) (decide (i = 0 ∧ k + 1 = l.length))

theorem meet_swap (a b c d : Pt) : meet c d a b = meet a b c d := by
  simp only [meet, proper]
  rw [Bool.and_comm (decide (sg (cr c d a) * sg (cr c d b) < 0))]
  cases (decide (sg (cr a b c) * sg (cr a b d) < 0) && decide (sg (cr c d a) * sg (cr c d b) < 0)) <;> cases on a b c <;> cases on a b d <;> cases on c d a <;> cases on c d b <;> rfl
theorem spoil4_swap (a b c d : Pt) (f g : Bool) (h : ¬ (f = true ∧ g = true)) : spoil4 c d a b g f = spoil4 a b c d f g := by
  unfold spoil4
  by_cases e : a = c
  · rw [if_pos e, if_pos e.symm]
  · rw [if_neg e, if_neg (fun h => e h.symm)]
    cases f <;> cases g
    · simp [meet_swap]
    · simp
    · simp
    · simp at h

/-- a ring that may be -/
def RingOk (l : List Pt) : Prop := 3 ≤ l.length ∧ l.length ≤ 64 ∧ (∀ p ∈ l, ok p = true) ∧ ∀ i k, i < l.length → k < l.length → k ≠ i → spoil l i k = false
/-- the same, as the document's own answer asks -/
def RingOk' (l : List Pt) : Prop := 3 ≤ l.length ∧ l.length ≤ 64 ∧ (∀ p ∈ l, ok p = true) ∧ ∀ i k, i < k → k < l.length → l.getD i (0, 0) ≠ l.getD k (0, 0) ∧ clash l i k = false

theorem nx_lt {n i : Nat} (h : i < n) : nx n i < n := Nat.mod_lt _ (by omega)
theorem nx_cases {n i : Nat} (h : i < n) : (i + 1 < n ∧ nx n i = i + 1) ∨ (i + 1 = n ∧ nx n i = 0) := by
  by_cases h1 : i + 1 < n
  · exact .inl ⟨h1, Nat.mod_eq_of_lt h1⟩
  · have : i + 1 = n := by omega
    exact .inr ⟨this, by unfold nx; rw [this, Nat.mod_self]⟩
/-- where all corners differ, the two words for i below k agree -/
theorem spoil_clash {l : List Pt} (h3 : 3 ≤ l.length) (hd : ∀ i k, i < l.length → k < l.length → i ≠ k → l.getD i (0, 0) ≠ l.getD k (0, 0)) {i k : Nat} (hik : i < k) (hk : k < l.length) :
    spoil l i k = clash l i k := by
  have hi : i < l.length := by omega
  unfold spoil clash spoil4 clash4
  rw [if_neg (hd i k hi hk (by omega))]
  rcases nx_cases hi with ⟨a1, a2⟩ | ⟨a1, a2⟩
  · rw [a2]
    by_cases e : k = i + 1
    · subst e
      simp only [decide_true, if_true]
      refine corner (hd i (i + 1) hi hk (by omega)) (hd _ _ (nx_lt hk) hk ?_)
      rcases nx_cases hk with ⟨b1, b2⟩ | ⟨b1, b2⟩ <;> omega
    · have e1 : decide (i + 1 = k) = false := decide_eq_false (by omega)
      have e2 : decide (k = i + 1) = false := decide_eq_false e
      rw [e1, e2]
      rcases nx_cases hk with ⟨b1, b2⟩ | ⟨b1, b2⟩
      · have e3 : decide (nx l.length k = i) = false := decide_eq_false (by omega)
        have e4 : decide (i = 0 ∧ k + 1 = l.length) = false := decide_eq_false (by omega)
        simp only [e3, e4, Bool.false_eq_true, if_false]
      · rw [b2]
        by_cases e0 : i = 0
        · subst e0
          have e3 : decide (0 = 0 ∧ k + 1 = l.length) = true := decide_eq_true ⟨rfl, b1⟩
          rw [e3]
          simp only [decide_true, if_true, Bool.false_eq_true, if_false]
          have h := corner (a := l.getD 1 (0, 0)) (b := l.getD 0 (0, 0)) (d := l.getD k (0, 0)) (hd _ _ (by omega) hi (by omega)) (hd _ _ hk hi (by omega))
          rw [← h]
          have hs : ∀ p q r : Pt, on p q r = on q p r := by
            intro p q r
            unfold on inBox
            rw [cr_move p q r, Int.min_comm, Int.max_comm, Int.min_comm p.2, Int.max_comm p.2]
            have : decide (-((p.1 - q.1) * (r.2 - q.2) - (p.2 - q.2) * (r.1 - q.1)) = 0) = decide (cr q p r = 0) := by
              apply decide_eq_decide.2
              unfold cr
              omega
            rw [this]
          rw [hs (l.getD k (0, 0)), hs (l.getD 0 (0, 0)) (l.getD 1 (0, 0)), Bool.or_comm]
        · have e3 : decide (0 = i) = false := decide_eq_false (by omega)
          have e4 : decide (i = 0 ∧ k + 1 = l.length) = false := decide_eq_false (by omega)
          simp only [e3, e4, Bool.false_eq_true, if_false]
  · omega
theorem ring_two (l : List Pt) : RingOk l ↔ RingOk' l := by
  constructor
  · rintro ⟨h3, h64, hok, h⟩
    have hd : ∀ i k, i < l.length → k < l.length → i ≠ k → l.getD i (0, 0) ≠ l.getD k (0, 0) := by
      intro i k hi hk hne e
      have := h i k hi hk (Ne.symm hne)
      unfold spoil spoil4 at this
      rw [if_pos e] at this
      cases this
    exact ⟨h3, h64, hok, fun i k hik hk => ⟨hd i k (by omega) hk (by omega), by rw [← spoil_clash h3 hd hik hk]; exact h i k (by omega) hk (by omega)⟩⟩
  · rintro ⟨h3, h64, hok, h⟩
    have hd : ∀ i k, i < l.length → k < l.length → i ≠ k → l.getD i (0, 0) ≠ l.getD k (0, 0) := by
      intro i k hi hk hne e
      rcases Nat.lt_or_gt_of_ne hne with hlt | hlt
      · exact (h i k hlt hk).1 e
      · exact (h k i hlt hi).1 e.symm
    have main : ∀ i k, i < k → k < l.length → spoil l i k = false := fun i k hik hk => by rw [spoil_clash h3 hd hik hk]; exact (h i k hik hk).2
    refine ⟨h3, h64, hok, fun i k hi hk hne => ?_⟩
    rcases Nat.lt_or_gt_of_ne hne with hlt | hlt
    · have := main k i hlt hi
      unfold spoil at this ⊢
      rw [← spoil4_swap]
      · exact this
      · rintro ⟨f, g⟩
        simp only [decide_eq_true_eq] at f g
        rcases nx_cases hi with ⟨a1, a2⟩ | ⟨a1, a2⟩ <;> rcases nx_cases hk with ⟨b1, b2⟩ | ⟨b1, b2⟩ <;> omega
    · exact main i k hlt hk
end Go.Proofs.YthjiobmglebmdaaGreatDoor.Geo
