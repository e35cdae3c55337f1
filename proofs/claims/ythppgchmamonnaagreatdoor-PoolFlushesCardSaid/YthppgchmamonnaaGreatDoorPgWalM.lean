/- The log's plain model: marks, records as bytes, where a log lies on the sectors of a disk. No program in sight. -/
import Derived.Test.YthppgchmamonnaaGreatDoorPgDskM
namespace Go.Proofs.YthppgchmamonnaaGreatDoor
open Go.RowKit

namespace Wal
/-- a byte of a number -/
def byteOf (n i : Nat) : Nat := n / 256 ^ i % 256
/-- a number in eight bytes -/
def word (n : Nat) : List Value := (List.range 8).map fun i => .int .u8 (byteOf n i : Nat)
theorem word_length (n : Nat) : (word n).length = 8 := rfl
/-- the first bytes as a number -/
def numOf (n : Nat) : Nat → Nat
  | 0 => 0
  | i + 1 => numOf n i + byteOf n i * 256 ^ i
theorem numOf_eq (n : Nat) : ∀ i, numOf n i = n % 256 ^ i := by
  intro i
  induction i with
  | zero => simp [numOf, Nat.mod_one]
  | succ i ih => rw [numOf, ih, byteOf, Nat.pow_succ, Nat.mod_mul, Nat.mul_comm (n / 256 ^ i % 256)]
theorem numOf_all (n : Nat) (h : n < 256 ^ 8) : numOf n 8 = n := by rw [numOf_eq]; exact Nat.mod_eq_of_lt h

/-- the mark's first bytes, and the mark -/
def sign : List Value := [.int .u8 87, .int .u8 65, .int .u8 76, .int .u8 50]
def markRow (hf base first size : Nat) : List Value :=
  sign ++ (.int .u8 hf :: List.replicate 3 (.int .u8 0)) ++ word base ++ word first ++ word size ++ List.replicate 32 (.int .u8 0)
theorem markRow_length (a b c d : Nat) : (markRow a b c d).length = 64 := rfl
theorem word_bytes (n : Nat) : ∀ u ∈ word n, IsByte u := fun u hu => by
  simp only [word, List.mem_map] at hu
  obtain ⟨i, _, rfl⟩ := hu
  exact ⟨_, rfl⟩
theorem markRow_bytes (a b c d : Nat) : ∀ u ∈ markRow a b c d, IsByte u := fun u hu => by
  simp only [markRow, List.mem_append, List.mem_cons, sign, List.mem_replicate, List.not_mem_nil, or_false] at hu
  rcases hu with ((((h | h) | h) | h) | h) | h
  · rcases h with h | h | h | h <;> exact ⟨_, h⟩
  · rcases h with h | h
    · exact ⟨_, h⟩
    · exact ⟨_, h.2⟩
  · exact word_bytes _ _ h
  · exact word_bytes _ _ h
  · exact word_bytes _ _ h
  · exact ⟨_, h.2⟩

/-- a record's length in two bytes -/
def head (n : Nat) : List Value := [.int .u8 (n % 256 : Nat), .int .u8 (n / 256 : Nat)]
/-- records as bytes -/
def pack : List (List Value) → List Value
  | [] => []
  | r :: l => head r.length ++ r ++ pack l
theorem pack_append : ∀ (a b : List (List Value)), pack (a ++ b) = pack a ++ pack b := by
  intro a b
  induction a with
  | nil => rfl
  | cons r l ih => simp [pack, ih]
theorem pack_snoc (l : List (List Value)) (r : List Value) : pack (l ++ [r]) = pack l ++ (head r.length ++ r) := by
  rw [pack_append]; simp [pack]
theorem pack_bytes : ∀ (l : List (List Value)), (∀ r ∈ l, ∀ u ∈ r, IsByte u) → ∀ u ∈ pack l, IsByte u := by
  intro l
  induction l with
  | nil => intro _ u hu; cases hu
  | cons r l ih =>
    intro h u hu
    simp only [pack, List.mem_append] at hu
    rcases hu with (hu | hu) | hu
    · simp only [head, List.mem_cons, List.not_mem_nil, or_false] at hu
      rcases hu with hu | hu <;> exact ⟨_, hu⟩
    · exact h r (by simp) u hu
    · exact ih (fun q hq => h q (by simp [hq])) u hu
/-- how many bytes records are -/
def weight : List (List Value) → Nat
  | [] => 0
  | r :: l => r.length + 2 + weight l
theorem pack_length : ∀ l, (pack l).length = weight l := by
  intro l
  induction l with
  | nil => rfl
  | cons r l ih => simp [pack, weight, ih, head]; omega
theorem weight_append : ∀ a b, weight (a ++ b) = weight a + weight b := by
  intro a b
  induction a with
  | nil => simp [weight]
  | cons r l ih => simp [weight, ih]; omega
theorem weight_le (m : Nat) : ∀ l : List (List Value), (∀ r ∈ l, r.length ≤ m) → weight l ≤ l.length * (m + 2) := by
  intro l
  induction l with
  | nil => intro _; simp [weight]
  | cons r l ih =>
    intro h
    have h1 := h r (by simp)
    have h2 := ih (fun q hq => h q (by simp [hq]))
    simp only [weight, List.length_cons, Nat.add_mul, Nat.one_mul]
    omega
theorem weight_two : ∀ l : List (List Value), 2 * l.length ≤ weight l := by
  intro l
  induction l with
  | nil => simp
  | cons r l ih => simp only [weight, List.length_cons]; omega
theorem weight_take_le : ∀ (l : List (List Value)) (k : Nat), weight (l.take k) ≤ weight l := by
  intro l k
  conv => rhs; rw [← List.take_append_drop k l, weight_append]
  omega

/-- the bytes of n sectors from s on -/
def flat (now : List (List Value)) (s : Nat) : Nat → List Value
  | 0 => []
  | n + 1 => flat now s n ++ now.getD (s + n) []
theorem flat_add (now : List (List Value)) (s a : Nat) : ∀ b, flat now s (a + b) = flat now s a ++ flat now (s + a) b := by
  intro b
  induction b with
  | zero => simp [flat]
  | succ b ih => rw [← Nat.add_assoc, flat, ih, flat, List.append_assoc, Nat.add_assoc]
theorem flat_congr {now now' : List (List Value)} {s : Nat} : ∀ n, (∀ i, i < n → now'.getD (s + i) [] = now.getD (s + i) []) → flat now' s n = flat now s n := by
  intro n
  induction n with
  | zero => intro _; rfl
  | succ n ih => intro h; rw [flat, flat, ih (fun i hi => h i (by omega)), h n (by omega)]
theorem flat_length {now : List (List Value)} (hS : Dsk.Sectors now) {s : Nat} : ∀ n, s + n ≤ now.length → (flat now s n).length = 64 * n := by
  intro n
  induction n with
  | zero => intro _; rfl
  | succ n ih =>
    intro h
    rw [flat, List.length_append, ih (by omega), (hS.getD (i := s + n) (by omega)).1]
    omega
theorem flat_bytes {now : List (List Value)} (hS : Dsk.Sectors now) {s : Nat} : ∀ n, s + n ≤ now.length → ∀ u ∈ flat now s n, IsByte u := by
  intro n
  induction n with
  | zero => intro _ u hu; cases hu
  | succ n ih =>
    intro h u hu
    rw [flat, List.mem_append] at hu
    rcases hu with hu | hu
    · exact ih (by omega) u hu
    · exact (hS.getD (i := s + n) (by omega)).2 u hu
theorem flat_take {now : List (List Value)} (hS : Dsk.Sectors now) {s n k : Nat} (hk : k ≤ n) (h : s + n ≤ now.length) : (flat now s n).take (64 * k) = flat now s k := by
  have e : n = k + (n - k) := by omega
  rw [e, flat_add]
  exact List.take_left' (flat_length hS k (by omega))
theorem flat_take_le {now : List (List Value)} (hS : Dsk.Sectors now) {s n k E : Nat} (hk : k ≤ n) (h : s + n ≤ now.length) (hE : E ≤ 64 * k) : (flat now s n).take E = (flat now s k).take E := by
  rw [← flat_take hS hk h, List.take_take, Nat.min_eq_left hE]

/-- the j-th 64 bytes -/
def chunk (b : List Value) (j : Nat) : List Value := (b.drop (64 * j)).take 64
/-- m sectors are written, from p on -/
def puts (d : Dsk) (p : Nat) (b : List Value) : Nat → Dsk
  | 0 => d
  | j + 1 => (puts d p b j).begun.put (p + j) (chunk b j)
theorem puts_length (d : Dsk) (p : Nat) (b : List Value) : ∀ j, (puts d p b j).now.length = d.now.length ∧ (puts d p b j).good = d.good := by
  intro j
  induction j with
  | zero => exact ⟨rfl, rfl⟩
  | succ j ih => exact ⟨by simp only [puts, Dsk.put, Dsk.begun, List.length_set]; exact ih.1, ih.2⟩
theorem puts_getD (d : Dsk) (p : Nat) (b : List Value) : ∀ j, p + j ≤ d.now.length → ∀ i, (puts d p b j).now.getD i [] = if p ≤ i ∧ i < p + j then chunk b (i - p) else d.now.getD i [] := by
  intro j
  induction j with
  | zero => intro _ i; rw [if_neg (by omega)]; rfl
  | succ j ih =>
    intro h i
    have hl := (puts_length d p b j).1
    simp only [puts, Dsk.put, Dsk.begun]
    by_cases hi : i = p + j
    · subst hi
      rw [if_pos (by omega), List.getD_eq_getElem?_getD, List.getElem?_set_self (by omega), show p + j - p = j from by omega]; rfl
    · rw [List.getD_eq_getElem?_getD, List.getElem?_set_ne (by omega), ← List.getD_eq_getElem?_getD, ih (by omega) i]
      by_cases hc : p ≤ i ∧ i < p + j
      · rw [if_pos hc, if_pos (by omega)]
      · rw [if_neg hc, if_neg (by omega)]
theorem chunk_flat (b : List Value) : ∀ j, 64 * j ≤ b.length → b.take (64 * j) ++ chunk b j = b.take (64 * (j + 1)) := by
  intro j h
  rw [chunk, show 64 * (j + 1) = 64 * j + 64 from by omega, List.take_add]
theorem chunk_length {b : List Value} {j : Nat} (h : 64 * (j + 1) ≤ b.length) : (chunk b j).length = 64 := by
  simp only [chunk, List.length_take, List.length_drop]; omega
theorem chunk_bytes {b : List Value} (h : ∀ u ∈ b, IsByte u) (j : Nat) : ∀ u ∈ chunk b j, IsByte u := fun u hu => h u (List.mem_of_mem_drop (List.mem_of_mem_take hu))
/-- what was written is there -/
theorem puts_flat (d : Dsk) (p : Nat) (b : List Value) (m : Nat) (hp : p + m ≤ d.now.length) (hb : 64 * m = b.length) : flat (puts d p b m).now p m = b := by
  have key : ∀ j, j ≤ m → flat (puts d p b m).now p j = b.take (64 * j) := by
    intro j
    induction j with
    | zero => intro _; simp [flat]
    | succ j ih =>
      intro hj
      rw [flat, ih (by omega), puts_getD d p b m hp, if_pos (by omega), show p + j - p = j from by omega, chunk_flat _ _ (by omega)]
  rw [key m (Nat.le_refl _), hb, List.take_length]
theorem puts_other (d : Dsk) (p : Nat) (b : List Value) (m : Nat) (hp : p + m ≤ d.now.length) (i : Nat) (hi : i < p ∨ p + m ≤ i) : (puts d p b m).now.getD i [] = d.now.getD i [] := by
  rw [puts_getD d p b m hp, if_neg (by omega)]

/-- the power is on, and stays -/
def Live (d : Dsk) : Prop := d.off = false ∧ d.cut = false
theorem Live.goes {d : Dsk} (h : Live d) : d.goes = true := by simp [Dsk.goes, h.1, h.2]
theorem Live.begun {d : Dsk} (h : Live d) : Live d.begun := ⟨by simp [Dsk.begun, h.goes], h.2⟩
theorem Live.put {d : Dsk} (h : Live d) (k : Nat) (x : List Value) : Live (d.put k x) := h
theorem Live.sync {d : Dsk} (h : Live d) : Live d.sync.1 := by
  have e : d.sync.1 = { d.begun with good := Dsk.settle d.now d.order d.good, order := [] } := by simp [Dsk.sync, h.goes]
  rw [e]; exact h.begun
theorem Live.puts {d : Dsk} (h : Live d) (p : Nat) (b : List Value) : ∀ j, Live (puts d p b j) ∧ (puts d p b j).ops = d.ops + j := by
  intro j
  induction j with
  | zero => exact ⟨h, by simp [Wal.puts]⟩
  | succ j ih => exact ⟨(ih.1.begun).put _ _, by simp only [Wal.puts, Dsk.put, Dsk.begun]; rw [ih.2]; omega⟩
theorem Live.fresh (n : Nat) : Live (Dsk.fresh n) := ⟨rfl, rfl⟩
theorem Live.crash (d : Dsk) (keep : List Bool) (torn : Int) : Live (d.crash keep torn) := ⟨rfl, rfl⟩
theorem sync_now {d : Dsk} (h : Live d) : d.sync.1.now = d.now ∧ d.sync.1.order = [] ∧ d.sync.1.ops = d.ops + 1 := by simp [Dsk.sync, h.goes, Dsk.begun]
theorem puts_wf {d : Dsk} (h : d.Wf) (p : Nat) (b : List Value) (hb : ∀ u ∈ b, IsByte u) : ∀ j, p + j ≤ d.good.length → 64 * j ≤ b.length → (puts d p b j).Wf := by
  intro j
  induction j with
  | zero => intro _ _; exact h
  | succ j ih =>
    intro h1 h2
    refine Dsk.Wf.put (Dsk.Wf.begun (ih (by omega) (by omega))) ?_ ⟨chunk_length h2, chunk_bytes hb j⟩
    show p + j < (puts d p b j).good.length
    rw [(puts_length d p b j).2]; omega
/-- behind a crash of a disk on which nothing waits all is as it was -/
theorem crash_calm {d : Dsk} (h : d.Wf) (ho : d.order = []) (keep : List Bool) (torn : Int) : (d.crash keep torn).now = d.now ∧ (d.crash keep torn).order = [] ∧ (d.crash keep torn).ops = 0 := by
  refine ⟨?_, rfl, rfl⟩
  simp only [Dsk.crash, ho, Dsk.bites]
  refine List.ext_getElem h.len.symm fun i h1 h2 => ?_
  have := h.calm i h1 (by rw [ho]; simp)
  simpa [List.getD_eq_getElem?_getD, h1, h2] using this.symm

/-- A log: where it lies, and its records. -/
structure Lg where
  frm : Nat
  half : Nat
  hf : Nat
  base : Nat
  first : Nat
  size : Nat
  recs : List (List Value)

/-- a record may be -/
def Rec (r : List Value) : Prop := r.length ≤ 1200 ∧ ∀ u ∈ r, IsByte u
/-- a log that may be, on n sectors -/
structure Lg.Fits (L : Lg) (n : Nat) : Prop where
  hf : L.hf ≤ 1
  half : 7 ≤ L.half
  room : L.frm + 1 + 2 * L.half ≤ n
  base : L.base ≤ L.first
  size : L.size ≤ L.half * 64
  small : L.first + L.recs.length ≤ 1000000000
  recs : ∀ r ∈ L.recs, Rec r
/-- where the half begins -/
def Lg.start (L : Lg) (hf : Nat) : Nat := L.frm + 1 + hf * L.half
/-- The log L lies on these sectors. -/
structure On (now : List (List Value)) (L : Lg) : Prop where
  fits : L.Fits now.length
  mark : now.getD L.frm [] = markRow L.hf L.base L.first L.size ∨ (now.getD L.frm [] = Dsk.zeroSector ∧ L.hf = 0 ∧ L.base = 0 ∧ L.first = 0 ∧ L.size = 0)
  body : ∃ dead : List (List Value), dead.length = L.first - L.base ∧ (∀ r ∈ dead, Rec r) ∧ (flat now (L.start L.hf) L.half).take L.size = pack (dead ++ L.recs) ∧ L.size = weight (dead ++ L.recs)

/-- an empty log lies on sectors of noughts -/
def Lg.none (frm half : Nat) : Lg := ⟨frm, half, 0, 0, 0, 0, []⟩
theorem On.fresh {now : List (List Value)} {frm half : Nat} (h1 : 7 ≤ half) (h2 : frm + 1 + 2 * half ≤ now.length) (hz : now.getD frm [] = Dsk.zeroSector) : On now (Lg.none frm half) :=
  ⟨⟨by simp [Lg.none], h1, h2, by simp [Lg.none], by simp [Lg.none], by simp [Lg.none], fun r hr => by simp [Lg.none] at hr⟩, .inr ⟨hz, rfl, rfl, rfl, rfl⟩, ⟨[], by simp [Lg.none], (fun r hr => by cases hr), by simp [Lg.none, pack], by simp [Lg.none, weight]⟩⟩
/-- where the log's sectors are the same, it is there -/
theorem On.same {now now' : List (List Value)} {L : Lg} (h : On now L) (hl : now'.length = now.length) (hs : ∀ i, L.frm ≤ i → i < L.frm + 1 + 2 * L.half → now'.getD i [] = now.getD i []) : On now' L := by
  have hf := h.fits.hf
  refine ⟨by rw [hl]; exact h.fits, by rw [hs _ (Nat.le_refl _) (by omega)]; exact h.mark, ?_⟩
  obtain ⟨dead, h1, h2, h3, h4⟩ := h.body
  refine ⟨dead, h1, h2, ?_, h4⟩
  rw [← h3, flat_congr]
  intro i hi
  have hm : L.hf * L.half ≤ L.half := by
    have := Nat.mul_le_mul_right L.half hf
    omega
  refine hs _ (by simp only [Lg.start]; omega) (by simp only [Lg.start]; omega)

/-- some records go -/
def Lg.trim (L : Lg) (k : Nat) : Lg := { L with first := k, recs := L.recs.drop (k - L.first) }
/-- the mark is written: p is how it lies behind -/
def markPut (now : List (List Value)) (L : Lg) : List (List Value) := now.set L.frm (markRow L.hf L.base L.first L.size)
theorem On.marked {now : List (List Value)} {L : Lg} (hf : L.Fits now.length) (dead : List (List Value)) (h1 : dead.length = L.first - L.base) (h2 : ∀ r ∈ dead, Rec r)
    (h3 : (flat now (L.start L.hf) L.half).take L.size = pack (dead ++ L.recs)) (h4 : L.size = weight (dead ++ L.recs)) : On (markPut now L) L := by
  have hr := hf.room
  have hl : (markPut now L).length = now.length := by simp [markPut]
  refine ⟨by rw [hl]; exact hf, .inl ?_, ⟨dead, h1, h2, ?_, h4⟩⟩
  · rw [markPut, List.getD_eq_getElem?_getD, List.getElem?_set_self (by omega)]; rfl
  · rw [← h3, flat_congr]
    intro i hi
    rw [markPut, List.getD_eq_getElem?_getD, List.getElem?_set_ne (by simp only [Lg.start]; omega), ← List.getD_eq_getElem?_getD]
theorem On.trim {now : List (List Value)} {L : Lg} (h : On now L) {k : Nat} (h1 : L.first ≤ k) (h2 : k ≤ L.first + L.recs.length) : On (markPut now (L.trim k)) (L.trim k) := by
  obtain ⟨dead, a1, a2, a3, a4⟩ := h.body
  have e : dead ++ L.recs = (dead ++ L.recs.take (k - L.first)) ++ (L.trim k).recs := by
    simp only [Lg.trim, List.append_assoc, List.take_append_drop]
  have hb := h.fits.base
  refine On.marked ⟨h.fits.hf, h.fits.half, h.fits.room, by simp only [Lg.trim]; omega, h.fits.size, ?_, fun r hr => h.fits.recs r (List.mem_of_mem_drop hr)⟩ (dead ++ L.recs.take (k - L.first)) ?_ ?_ ?_ ?_
  · have := h.fits.small
    simp only [Lg.trim, List.length_drop]; omega
  · simp only [Lg.trim, List.length_append, List.length_take]; omega
  · intro r hr
    rcases List.mem_append.1 hr with hr | hr
    · exact a2 r hr
    · exact h.fits.recs r (List.mem_of_mem_take hr)
  · rw [← e]; exact a3
  · rw [← e]; exact a4

/-- there is room behind -/
def Lg.behind (L : Lg) (rs : List (List Value)) : Bool := decide (L.size + weight rs ≤ L.half * 64)
/-- there is room at all -/
def Lg.may (L : Lg) (rs : List (List Value)) : Bool := L.behind rs || decide (weight (L.recs ++ rs) ≤ L.half * 64)
/-- records are put behind the others -/
def Lg.grow (L : Lg) (rs : List (List Value)) : Lg :=
  if L.behind rs then { L with size := L.size + weight rs, recs := L.recs ++ rs }
  else { L with hf := 1 - L.hf, base := L.first, size := weight (L.recs ++ rs), recs := L.recs ++ rs }

theorem pad_mod (n : Nat) : (n + (64 - n % 64) % 64) % 64 = 0 := by omega
/-- what a write into a half leaves there -/
theorem write_flat {d : Dsk} (hd : d.Wf) {S H a k : Nat} {b pad : List Value} (hS : S + H ≤ d.now.length) (hk : k = a / 64) (m : Nat)
    (hm : 64 * m = ((flat d.now (S + k) 1).take (a - 64 * k) ++ b ++ pad).length) (hH : k + m ≤ H) (ha : a + b.length ≤ 64 * H) (b2 : List Value) (hb2 : b2 = (flat d.now (S + k) 1).take (a - 64 * k) ++ b ++ pad) :
    (flat (puts d (S + k) b2 m).now S H).take (a + b.length) = (flat d.now S H).take a ++ b := by
  have hbl : 64 * m = b2.length := by rw [hb2]; exact hm
  have e1 : flat (puts d (S + k) b2 m).now S (k + m) = flat d.now S k ++ b2 := by
    rw [flat_add, puts_flat _ _ _ _ (by omega) hbl, flat_congr]
    intro i hi
    exact puts_other _ _ _ _ (by omega) _ (by omega)
  have hn : d.now.length = d.good.length := hd.len
  have hlk : (flat d.now S k).length = 64 * k := flat_length hd.now k (by omega)
  have hka : 64 * k ≤ a := by omega
  have hka2 : a - 64 * k < 64 := by omega
  have hm2 := hm
  have e2 : flat (puts d (S + k) b2 m).now S H = flat (puts d (S + k) b2 m).now S (k + m) ++ flat (puts d (S + k) b2 m).now (S + (k + m)) (H - (k + m)) := by
    rw [← flat_add]; congr 1; omega
  have hab : (flat d.now (S + k) 1).length = 64 ∨ k = H := by
    by_cases hkH : k < H
    · exact .inl (by rw [flat_length hd.now 1 (by omega)])
    · exact .inr (by omega)
  have e3 : (flat d.now S H).take a = flat d.now S k ++ (flat d.now (S + k) 1).take (a - 64 * k) := by
    by_cases hkH : k < H
    · have e4 : flat d.now S H = flat d.now S k ++ (flat d.now (S + k) 1 ++ flat d.now (S + (k + 1)) (H - (k + 1))) := by
        rw [← List.append_assoc, ← flat_add, ← flat_add]; congr 1; omega
      rw [e4, List.take_append, hlk, List.take_of_length_le (by omega), List.take_append, show a - 64 * k - (flat d.now (S + k) 1).length = 0 from by rw [flat_length hd.now 1 (by omega)]; omega]
      simp
    · have : k = H := by omega
      subst this
      have : a - 64 * k = 0 := by omega
      rw [this, List.take_of_length_le (by omega)]; simp
  have hlen : ((flat d.now (S + k) 1).take (a - 64 * k)).length = a - 64 * k := by
    rw [List.length_take]
    rcases hab with h | h
    · omega
    · subst h; omega
  rw [e3, e2, e1, hb2]
  rw [List.append_assoc, List.append_assoc, List.take_append, hlk, List.take_of_length_le (by omega)]
  rw [List.append_assoc (flat d.now S k)]
  congr 1
  rw [List.append_assoc, List.append_assoc, List.take_append, hlen, List.take_of_length_le (by omega), List.take_append, List.take_of_length_le (l := b) (by omega)]
  rw [show a + b.length - 64 * k - (a - 64 * k) - b.length = 0 from by omega]
  simp
/-- the new log lies there -/
theorem On.grow {d : Dsk} {L : Lg} (h : On d.now L) {rs : List (List Value)} (hrs : ∀ r ∈ rs, Rec r) (hsm : L.first + L.recs.length + rs.length ≤ 1000000000) (hmay : L.may rs = true) (now' : List (List Value)) (hl : now'.length = d.now.length)
    (hb : L.behind rs = true → (flat now' (L.start L.hf) L.half).take (L.size + weight rs) = (flat d.now (L.start L.hf) L.half).take L.size ++ pack rs)
    (hn : L.behind rs = false → (flat now' (L.start (1 - L.hf)) L.half).take (weight (L.recs ++ rs)) = pack (L.recs ++ rs)) : On (markPut now' (L.grow rs)) (L.grow rs) := by
  obtain ⟨dead, a1, a2, a3, a4⟩ := h.body
  have hF := h.fits
  have hrec : ∀ r ∈ L.recs ++ rs, Rec r := fun r hr => by
    rcases List.mem_append.1 hr with hr | hr
    · exact hF.recs r hr
    · exact hrs r hr
  by_cases hbh : L.behind rs = true
  · have eg : L.grow rs = { L with size := L.size + weight rs, recs := L.recs ++ rs } := by simp [Lg.grow, hbh]
    rw [eg]
    refine On.marked ⟨hF.hf, hF.half, by rw [hl]; exact hF.room, hF.base, by simpa [Lg.behind] using hbh, ?_, hrec⟩ dead a1 a2 ?_ ?_
    · simp only [List.length_append]; omega
    · rw [← List.append_assoc, pack_append, ← a3]
      exact hb hbh
    · rw [← List.append_assoc, weight_append, ← a4]
  · have hbf : L.behind rs = false := by simpa using hbh
    have eg : L.grow rs = { L with hf := 1 - L.hf, base := L.first, size := weight (L.recs ++ rs), recs := L.recs ++ rs } := by simp [Lg.grow, hbf]
    rw [eg]
    refine On.marked ⟨?_, hF.half, by rw [hl]; exact hF.room, Nat.le_refl _, ?_, ?_, hrec⟩ [] (by simp) (fun r hr => by cases hr) ?_ ?_
    · show 1 - L.hf ≤ 1; omega
    · simpa [Lg.may, hbf] using hmay
    · simp only [List.length_append]; omega
    · exact hn hbf
    · rfl
end Wal
end Go.Proofs.YthppgchmamonnaaGreatDoor
