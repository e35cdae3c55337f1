/- Pages: their slots in memory; Clone, used, with. Pages: Clone of slots, with, free, put, Insert. Pages: free, put, Insert, Slots. Pages: put, Insert, Slots. Pages as bytes: put16, put32, Sum. -/
import Derived.Test.YthppgchmamonnaaGreatDoorPq02
import Derived.Test.YthppgchmamonnaaGreatDoorPq19
namespace Go.Proofs.YthppgchmamonnaaGreatDoor
open Go.RowKit
def slotCells : List Value → List (Option (List Int)) → List Value
  | u :: us, s :: ss => u :: .bool s.isSome :: slotCells us ss
  | _, _ => []
theorem slotCells_length : ∀ (us : List Value) (ss : List (Option (List Int))), us.length = ss.length → (slotCells us ss).length = ss.length * 2 := by
  intro us
  induction us with
  | nil => intro ss h; cases ss with
    | nil => rfl
    | cons s r => simp at h
  | cons u us ih => intro ss h; cases ss with
    | nil => simp at h
    | cons s r =>
      simp only [slotCells, List.length_cons] at *
      rw [ih r (by omega)]
      omega
theorem slotCells_get : ∀ (us : List Value) (ss : List (Option (List Int))) (i : Nat) (u : Value) (s : Option (List Int)), us[i]? = some u → ss[i]? = some s → (slotCells us ss)[i * 2]? = some u ∧ (slotCells us ss)[i * 2 + 1]? = some (.bool s.isSome) := by
  intro us
  induction us with
  | nil => intro ss i u s h; simp at h
  | cons v us ih =>
    intro ss i u s h1 h2
    cases ss with
    | nil => simp at h2
    | cons t r =>
      cases i with
      | zero =>
        simp at h1 h2
        subst h1 h2
        exact ⟨rfl, rfl⟩
      | succ i =>
        simp at h1 h2
        have := ih r i u s h1 h2
        rw [show (i + 1) * 2 = i * 2 + 1 + 1 from by omega]
        simpa [slotCells] using this
theorem slotCells_append : ∀ (us : List Value) (ss : List (Option (List Int))) (u : Value) (s : Option (List Int)), us.length = ss.length → slotCells (us ++ [u]) (ss ++ [s]) = slotCells us ss ++ [u, .bool s.isSome] := by
  intro us
  induction us with
  | nil => intro ss u s h; cases ss with
    | nil => rfl
    | cons t r => simp at h
  | cons v us ih => intro ss u s h; cases ss with
    | nil => simp at h
    | cons t r =>
      simp only [List.cons_append, slotCells]
      rw [ih r u s (by simpa using h)]
theorem slotCells_set : ∀ (us : List Value) (ss : List (Option (List Int))) (i : Nat) (u : Value) (s : Option (List Int)), us.length = ss.length → i < ss.length → ((slotCells us ss).set (i * 2) u).set (i * 2 + 1) (.bool s.isSome) = slotCells (us.set i u) (ss.set i s) := by
  intro us
  induction us with
  | nil => intro ss i u s h hi; cases ss with
    | nil => simp at hi
    | cons t r => simp at h
  | cons v us ih => intro ss i u s h hi; cases ss with
    | nil => simp at h
    | cons t r =>
      cases i with
      | zero => rfl
      | succ i =>
        have := ih r i u s (by simpa using h) (by simpa using hi)
        rw [show (i + 1) * 2 = i * 2 + 1 + 1 from by omega]
        simpa [slotCells] using this
theorem slotCells_one : ∀ (us : List Value) (ss : List (Option (List Int))), (∀ u ∈ us, u.oneCell' = true) → ∀ c ∈ slotCells us ss, c.oneCell' = true := by
  intro us
  induction us with
  | nil => intro ss _ c hc; simp [slotCells] at hc
  | cons v us ih => intro ss h c hc; cases ss with
    | nil => simp [slotCells] at hc
    | cons t r =>
      simp only [slotCells, List.mem_cons] at hc
      rcases hc with rfl | rfl | hc
      · exact h _ (by simp)
      · rfl
      · exact ih r (fun u hu => h u (by simp [hu])) c hc
def SlotRow (w : World) (u : Value) (s : Option (List Int)) (R : Nat → Prop) : Prop := match s with | some b => Reads w u (b.map (Value.int .u8)) R | none => u = .slice none 0 0
theorem SlotRow.kept {w w' : World} {u : Value} {s : Option (List Int)} {R G : Nat → Prop} (h : SlotRow w u s R) (hk : Kept G w w') (hd : ∀ k, R k → ¬ G k) : SlotRow w' u s R := by
  cases s with
  | none => exact h
  | some b => exact Reads.kept h hk hd
theorem SlotRow.mono {w : World} {u : Value} {s : Option (List Int)} {R G : Nat → Prop} (h : SlotRow w u s R) (hg : ∀ k, k < w.heap.size → R k → G k) : SlotRow w u s G := by
  cases s with
  | none => exact h
  | some b => exact Reads.mono h hg
def slotLen (s : Option (List Int)) : Nat := (s.getD []).length
theorem SlotRow.shape {w : World} {u : Value} {s : Option (List Int)} {R : Nat → Prop} (h : SlotRow w u s R) : ∃ a c, u = .slice a (slotLen s) c := by
  cases s with
  | none => exact ⟨none, 0, h⟩
  | some b =>
    obtain ⟨a, c, h1, -⟩ := Reads.shape h
    rw [List.length_map] at h1
    exact ⟨a, c, h1⟩
def SlotsAt (w : World) (lv : Value) (ss : List (Option (List Int))) (R : Nat → Prop) : Prop :=
  ∃ us, us.length = ss.length ∧ ReadsK 2 w lv ss.length (slotCells us ss) R ∧ ∀ (i : Nat) (u : Value) (s : Option (List Int)), us[i]? = some u → ss[i]? = some s → SlotRow w u s R
theorem SlotsAt.kept {w w' : World} {lv : Value} {ss : List (Option (List Int))} {R G : Nat → Prop} (h : SlotsAt w lv ss R) (hk : Kept G w w') (hd : ∀ k, R k → ¬ G k) : SlotsAt w' lv ss R := by
  obtain ⟨us, h1, h2, h3⟩ := h
  exact ⟨us, h1, h2.kept hk hd, fun i u s a b => (h3 i u s a b).kept hk hd⟩
theorem SlotsAt.mono {w : World} {lv : Value} {ss : List (Option (List Int))} {R G : Nat → Prop} (h : SlotsAt w lv ss R) (hg : ∀ k, k < w.heap.size → R k → G k) : SlotsAt w lv ss G := by
  obtain ⟨us, h1, h2, h3⟩ := h
  exact ⟨us, h1, h2.mono hg, fun i u s a b => (h3 i u s a b).mono hg⟩
theorem SlotsAt.nil (w : World) (R : Nat → Prop) : SlotsAt w (.slice none 0 0) [] R := ⟨[], rfl, ⟨rfl, .inl ⟨rfl, none, 0, rfl, fun _ => rfl⟩⟩, fun i u s h => by simp at h⟩
theorem SlotsAt.shape {w : World} {lv : Value} {ss : List (Option (List Int))} {R : Nat → Prop} (h : SlotsAt w lv ss R) : ∃ a c, lv = .slice a ss.length c ∧ (a = none ↔ lv = .slice none 0 0) := by
  obtain ⟨us, h1, h2, h3⟩ := h
  exact h2.shape
theorem SlotsAt.at {w : World} {a : Option Addr} {n c : Nat} {ss : List (Option (List Int))} {R : Nat → Prop} (h : SlotsAt w (.slice a n c) ss R) {i : Nat} (hi : i < ss.length) :
    ∃ b o u, a = some ⟨b, o, none⟩ ∧ n = ss.length ∧ b < w.heap.size ∧ R b ∧ w.cell? ⟨b, o + i * 2, none⟩ = some u ∧ w.cell? ⟨b, o + i * 2 + 1, none⟩ = some (.bool ss[i].isSome) ∧ SlotRow w u ss[i] R := by
  obtain ⟨us, h1, h2, h3⟩ := h
  obtain ⟨b, o, ha, hn, hb, hR, hj⟩ := h2.at hi
  have hu : us[i]? = some us[i] := List.getElem?_eq_getElem (by omega)
  have hs : ss[i]? = some ss[i] := List.getElem?_eq_getElem hi
  obtain ⟨g0, g1⟩ := slotCells_get us ss i _ _ hu hs
  obtain ⟨x0, e0, c0⟩ := hj 0 (by omega)
  obtain ⟨x1, e1, c1⟩ := hj 1 (by omega)
  rw [Nat.add_zero, g0] at e0
  rw [g1] at e1
  rw [← Option.some.inj e0, Nat.add_zero] at c0
  rw [← Option.some.inj e1, ← Nat.add_assoc] at c1
  exact ⟨b, o, us[i], ha, hn, hb, hR, c0, c1, h3 i _ _ hu hs⟩
theorem tSlots : PlainK Tryz.prog 2 92 96 (.agg #[.slice none 0 0, .bool false]) 32 := PlainK.of Tryz.underlying92 (by kernel_rfl) rfl (by omega)
def usedOf (ss : List (Option (List Int))) : Nat := 16 + 4 * ss.length + (ss.map slotLen).sum
theorem sum_take (ss : List (Option (List Int))) (j : Nat) (h : j < ss.length) : ((ss.take (j + 1)).map slotLen).sum = ((ss.take j).map slotLen).sum + slotLen ss[j] := by
  rw [List.take_succ_eq_append_getElem h, List.map_append, List.sum_append]; simp
theorem sum_bound (ss : List (Option (List Int))) (n : Nat) (h : ∀ s ∈ ss, slotLen s ≤ n) (j : Nat) : ((ss.take j).map slotLen).sum ≤ ss.length * n := by
  have : ∀ l : List (Option (List Int)), (∀ s ∈ l, slotLen s ≤ n) → (l.map slotLen).sum ≤ l.length * n := by
    intro l
    induction l with
    | nil => intro _; simp
    | cons s r ih =>
      intro h
      have h1 := h s (by simp)
      have h2 := ih fun t ht => h t (by simp [ht])
      simp only [List.map_cons, List.sum_cons, List.length_cons, Nat.add_mul, Nat.one_mul]
      omega
  refine Nat.le_trans (this _ fun s hs => h s (List.mem_of_mem_take hs)) (Nat.mul_le_mul_right _ ?_)
  rw [List.length_take]; omega
set_option maxRecDepth 100000 in
theorem slots_used (w : World) (lv : Value) (ss : List (Option (List Int))) (R : Nat → Prop) (h : SlotsAt w lv ss R) (hl : ss.length ≤ 1000) (hs : ∀ s ∈ ss, slotLen s ≤ 1000) :
    Calls Tryz.prog 84 #[lv] w fun e w' => e = .returned (.int .i64 (usedOf ss)) ∧ Kept Nob w w' := by
  obtain ⟨a, c, rfl, -⟩ := h.shape
  have H := Lib.hid h
  have HB := Lib.hid fun j => sum_bound ss 1000 hs j
  clear h hs
  go_enter Tryz.func84, Tryz.ntmps84
  go_wp2
  go_loopw [3, 12] (fun n i wr => ∃ j : Nat, j ≤ ss.length ∧ i = .int .i64 j ∧ n = .int .i64 ((16 + 4 * ss.length + ((ss.take j).map slotLen).sum : Nat) : Int) ∧ Kept Nob w wr) (fun _ i _ => ss.length - (intOf i).toNat)
  case atStart => exact ⟨0, Nat.zero_le _, rfl, by simp, Kept.refl _ _⟩
  case round =>
    obtain ⟨j, hj, rfl, rfl, hk⟩ := hrel
    have HK := Lib.hid hk
    clear hk
    have hb := HB.out j
    by_cases hlt : j < ss.length
    · obtain ⟨b, o, u, rfl, -, hbl, -, c0, c1, hrow⟩ := (H.out.kept HK.out (fun _ _ f => f)).at hlt
      have HT := Lib.hid (sum_take ss j hlt)
      obtain ⟨ua, uc, rfl⟩ := hrow.shape
      have hb2 := HB.out (j + 1)
      rw [HT.out] at hb2
      clear hrow
      generalize ((ss.take j).map slotLen).sum = q at *
      generalize slotLen ss[j] = z at *
      generalize ss[j].isSome = y at *
      go_wp2_with fail
      go_roundw
      case rel => exact ⟨j + 1, by omega, by go_num, by rw [HT.out]; go_num, HK.out.then (Kept.alloc Nob _ _)⟩
      case measure => simp [intOf]; omega
    · have hje : j = ss.length := by omega
      subst hje
      rw [List.take_length]
      have : Hid (usedOf ss = 16 + 4 * ss.length + (ss.map slotLen).sum) := rfl
      rw [List.take_length] at hb
      generalize (ss.map slotLen).sum = q at *
      go_wp2_with fail
      go_ret
      exact ⟨by rw [this.out]; rfl, HK.out⟩
theorem one_of_slots {w : World} {us : List Value} {ss : List (Option (List Int))} {R : Nat → Prop} (h1 : us.length = ss.length) (h3 : ∀ (i : Nat) (u : Value) (s : Option (List Int)), us[i]? = some u → ss[i]? = some s → SlotRow w u s R) : ∀ u ∈ us, u.oneCell' = true := by
  intro u hu
  obtain ⟨i, hi, rfl⟩ := List.getElem_of_mem hu
  obtain ⟨a, c, e⟩ := (h3 i _ _ (List.getElem?_eq_getElem hi) (List.getElem?_eq_getElem (by omega))).shape
  rw [e]; rfl
def SlotsOwn (w : World) (lv : Value) (us : List Value) (ss : List (Option (List Int))) (R G : Nat → Prop) : Prop :=
  us.length = ss.length ∧ OwnK 2 w 96 lv ss.length (slotCells us ss) G ∧ ∀ (i : Nat) (u : Value) (s : Option (List Int)), us[i]? = some u → ss[i]? = some s → SlotRow w u s R
set_option maxRecDepth 100000 in
theorem slots_clone (w : World) (lv : Value) (ss : List (Option (List Int))) (R : Nat → Prop) (h : SlotsAt w lv ss R) (hl : ss.length ≤ 1000) :
    Calls Tryz.prog 107 #[lv] w fun e w' => ∃ us a c, e = .returned (.slice a ss.length c) ∧ SlotsOwn w' (.slice a ss.length c) us ss R (From w.heap.size) ∧ Kept Nob w w' := by
  obtain ⟨us, h1, h2, h3⟩ := h
  obtain ⟨a, c, rfl, hn⟩ := h2.shape
  have heq := fun w a n c => Lib.run_eql_slice_nil (P := Tryz.prog) w 92 96 a n c 0 0 Tryz.underlying92
  have H1 := Lib.hid h1
  have H2 := Lib.hid h2
  have H3 := Lib.hid h3
  cases a with
  | none =>
    have hv := hn.1 rfl
    simp only [Value.slice.injEq, true_and] at hv
    obtain ⟨h0, rfl⟩ := hv
    have hs := List.eq_nil_of_length_eq_zero h0
    subst hs
    have hus := List.eq_nil_of_length_eq_zero (show us.length = 0 from H1.out)
    subst hus
    clear h1 h2 h3 hn
    go_enter Tryz.func107, Tryz.ntmps107
    go_wp2
    go_ret
    exact ⟨[], none, 0, rfl, ⟨rfl, OwnK.nil _ _ _ _, fun i u s h => by simp at h⟩, Kept.refl _ _⟩
  | some ad =>
    have HO := Lib.hid (slotCells_one us ss (one_of_slots h1 h3))
    clear h1 h2 h3 hn
    go_enter Tryz.func107, Tryz.ntmps107
    go_wp2_with (at_builtin; refine wpList_appendK rfl _ _ 92 rfl tSlots (.slice (some ⟨w.heap.size, 0, none⟩) 0 0) _ 0 ss.length [] (slotCells us ss) (From w.heap.size) R rfl rfl (OwnK.empty_new w _) (H2.out.alloc _) HO.out (by omega) ?_; intro b cap w' ho hk _; rw [Nat.zero_add] at ho ⊢; have HW := Lib.hid ho; have HK := Lib.hid hk; clear ho hk)
    go_ret
    have kk : Kept Nob w w' := (Kept.alloc Nob w _).from (Nat.le_refl _) (HK.out.mono fun j _ hj => by simp [Value.ownBlock] at hj; show _ ≤ _; omega)
    refine ⟨us, b, cap, rfl, ⟨H1.out, HW.out.mono fun j _ hj => ?_, fun i u s a b => (H3.out i u s a b).kept kk (fun _ _ f => f)⟩, kk⟩
    rcases hj with hj | hj
    · simp [Value.ownBlock] at hj; show _ ≤ _; omega
    · simp at hj; show _ ≤ _; omega
def withOf (ss : List (Option (List Int))) (i : Nat) (b : List Int) : List (Option (List Int)) := if i < ss.length then ss.set i (some b) else ss ++ [some b]
theorem bytes_cells (b : List Int) : ∀ u ∈ b.map (Value.int .u8), IsByte u := by
  intro u hu
  obtain ⟨n, -, rfl⟩ := List.mem_map.1 hu
  exact ⟨n, rfl⟩
theorem new_cells (w : World) (cs : Array Value) (e : TypeId) : ∀ (i : Nat) (u : Value), cs.toList[i]? = some u → (w.alloc (.cells cs e)).cell? ⟨w.heap.size, 0 + i, none⟩ = some u := by
  intro i u h
  rw [Nat.zero_add]
  exact cell_at (heap_alloc_new w (.cells cs e)) i u (by rw [← Array.getElem?_toList]; exact h)
theorem SlotsOwn.store {w : World} {g m c i : Nat} {us : List Value} {ss : List (Option (List Int))} {R G F : Nat → Prop} (h : SlotsOwn w (.slice (some ⟨g, 0, none⟩) m c) us ss R G) (hi : i < ss.length) (hR : ∀ x, R x → x ≠ g) {u : Value} {b : List Int} (hu : Reads w u (b.map (Value.int .u8)) F) (hF : ∀ x, F x → x ≠ g) :
    SlotsAt ((w.setCell ⟨g, i * 2, none⟩ u).setCell ⟨g, i * 2 + 1, none⟩ (.bool true)) (.slice (some ⟨g, 0, none⟩) m c) (ss.set i (some b)) (fun x => R x ∨ F x ∨ x = g) := by
  obtain ⟨h1, h2, h3⟩ := h
  have kk := kept2 w g (i * 2) (i * 2 + 1) u (.bool true)
  refine ⟨us.set i u, by simpa using h1, ?_, fun j v t hv ht => ?_⟩
  · have ho := (h2.set (i * 2) u).set (i * 2 + 1) (.bool true)
    have hc := slotCells_set us ss i u (some b) h1 hi
    rw [show (Value.bool (some b).isSome) = .bool true from rfl] at hc
    rw [hc] at ho
    rw [List.length_set]
    exact ReadsK.mono (OwnK.reads ⟨ho.1, fun j hj => (show j = g by simp [Value.ownBlock] at hj; exact hj.symm)⟩ (F := fun j => j = g)) fun x _ hx => .inr (.inr hx)
  · rw [List.getElem?_set] at hv ht
    by_cases hij : i = j
    · rw [if_pos hij, if_pos (by omega)] at hv
      rw [if_pos hij, if_pos (by omega)] at ht
      rw [← Option.some.inj hv, ← Option.some.inj ht]
      exact SlotRow.mono (s := some b) (hu.kept kk (fun x hx e => hF x hx e)) fun x _ hx => .inr (.inl hx)
    · rw [if_neg hij] at hv ht
      exact ((h3 j v t hv ht).kept kk (fun x hx e => hR x hx e)).mono fun x _ hx => .inl hx
set_option maxRecDepth 100000 in
set_option maxHeartbeats 1000000 in
theorem slots_with (w : World) (lv : Value) (ss : List (Option (List Int))) (R : Nat → Prop) (h : SlotsAt w lv ss R) (hl : ss.length ≤ 1000) (i : Nat) (hi : i ≤ ss.length) (v : Value) (b : List Int) (G : Nat → Prop) (hb : Reads w v (b.map (Value.int .u8)) G) (hbl : b.length ≤ 1000000) :
    Calls Tryz.prog 83 #[lv, .int .i64 i, v] w fun e w' => ∃ a c, e = .returned (.slice a (withOf ss i b).length c) ∧ SlotsAt w' (.slice a (withOf ss i b).length c) (withOf ss i b) (fun x => R x ∨ w.heap.size ≤ x) ∧ Kept Nob w w' := by
  obtain ⟨va, vc, rfl, -⟩ := hb.shape
  rw [List.length_map] at hb ⊢
  have hu := h.mono (G := fun x => R x ∧ x < w.heap.size) fun k hk hr => ⟨hr, hk⟩
  have HC := Lib.hid (slots_clone w lv ss _ hu hl)
  obtain ⟨la, lc, rfl, -⟩ := h.shape
  have HV := Lib.hid hb
  clear h hb hu
  go_enter Tryz.func83, Tryz.ntmps83
  go_wp2_with fail
  refine HC.out.mono ?_
  rintro e w1 ⟨us, a1, c1, rfl, ⟨hu1, ho1, hr1⟩, hk1⟩
  have HU1 := Lib.hid hu1
  have HO1 := Lib.hid ho1
  have HR1 := Lib.hid hr1
  have HK1 := Lib.hid hk1
  clear hu1 ho1 hr1 hk1 HC
  by_cases hlt : i < ss.length
  · have t1 : ¬ (ss.length : Int) ≤ (i : Int) := by omega
    obtain ⟨g, rfl⟩ : ∃ g, a1 = some ⟨g, 0, none⟩ := by
      rcases HO1.out.shape with ⟨hv, h0⟩ | ⟨g, cap, cur, hv, _⟩
      · omega
      · simp only [Value.slice.injEq] at hv
        exact ⟨g, hv.1⟩
    have hsl := HO1.out.len
    have HCl := Lib.hid (clone_bytes w1 _ _ G (HV.out.kept HK1.out (fun _ _ f => f)) (bytes_cells b) (by rw [List.length_map]; omega))
    clear hsl
    go_wp2_with fail
    refine HCl.out.mono ?_
    rintro e w2 ⟨b2, c2, rfl, ho2, hk2, -⟩
    rw [List.length_map] at ho2 ⊢
    have HO2 := Lib.hid ho2
    have HK2 := Lib.hid hk2
    have HO1' := Lib.hid (HO1.out.kept hk2 (fun _ _ f => f))
    have hil : i * 2 + 1 < (slotCells us ss).length := by rw [slotCells_length us ss HU1.out]; omega
    obtain ⟨y0, x0⟩ : ∃ y, w2.cell? ⟨g, i * 2, none⟩ = some y := ⟨_, HO1'.out.cell (i * 2) _ (List.getElem?_eq_getElem (by omega))⟩
    obtain ⟨y1, x1⟩ : ∃ y, w2.cell? ⟨g, i * 2 + 1, none⟩ = some y := ⟨_, HO1'.out.cell (i * 2 + 1) _ (List.getElem?_eq_getElem hil)⟩
    have f0 := HO1'.out.frozen (i * 2)
    have f1 := HO1'.out.frozen (i * 2 + 1)
    have gl := HO1'.out.blockLt (g := g) rfl
    clear ho2 hk2 HCl hil
    go_wp2_with fail
    go_ret
    have hg : w.heap.size ≤ g := HO1.out.2 g rfl
    have hs1 := HK1.out.size
    have e : withOf ss i b = ss.set i (some b) := by unfold withOf; rw [if_pos hlt]
    have hst := SlotsOwn.store (i := i) ⟨HU1.out, HO1'.out, fun j v t a b => (HR1.out j v t a b).kept HK2.out (fun _ _ f => f)⟩ hlt (fun x hx e => by omega) HO2.out.reads (fun x hx e => by have hx : w1.heap.size ≤ x := hx; have := HO1.out.blockLt (g := g) rfl; omega)
    refine ⟨some ⟨g, 0, none⟩, c1, by rw [e, List.length_set]; rfl, ?_, ((HK1.out.then HK2.out).trans (kept2 w2 g _ _ _ _) fun x hx e => by have e : x = g := e; omega)⟩
    rw [e, List.length_set]
    exact hst.mono fun x _ hx => hx.elim (fun h => .inl h.1) fun h => h.elim (fun h => .inr (Nat.le_trans hs1 h)) fun h => .inr (by omega)
  · have hie : i = ss.length := by omega
    subst hie
    have hone : ∀ u ∈ [Value.slice none 0 0, Value.bool false], u.oneCell' = true := by
      intro u hu
      simp only [List.mem_cons, List.not_mem_nil, or_false] at hu
      rcases hu with rfl | rfl <;> rfl
    have HOn := Lib.hid hone
    clear hone
    go_wp2_with (at_builtin; refine wpList_append1K rfl _ _ 92 rfl tSlots (.slice a1 ss.length c1) ss.length (slotCells us ss) [.slice none 0 0, .bool false] (From w.heap.size) w1.heap.size 0 1 rfl rfl (HO1.out.alloc _) rfl (new_cells w1 #[.slice none 0 0, .bool false] _) (Nat.le_refl _) HOn.out (by omega) ?_; intro g cap w2 ho2 hk2; have HO2 := Lib.hid ho2; have HK2 := Lib.hid hk2; clear ho2 hk2)
    have hg : w.heap.size ≤ g := by
      rcases HO2.out.2 g rfl with h | h
      · exact HO1.out.2 g h
      · have := HK1.out.size; simp at h; omega
    have HK2' : Hid (Kept (From w.heap.size) w1 w2) := Lib.hid ((Kept.alloc _ w1 _).trans' (HK2.out.mono fun x _ hx => HO1.out.2 x hx))
    have HSO : Hid (SlotsOwn w2 (.slice (some ⟨g, 0, none⟩) (ss.length + 1) cap) (us ++ [.slice none 0 0]) (ss ++ [none]) (fun x => R x ∧ x < w.heap.size) (Just g)) := by
      have hlen : (ss ++ [(none : Option (List Int))]).length = ss.length + 1 := by simp
      refine Lib.hid ⟨by simp [HU1.out], ?_, fun j v t hv ht => ?_⟩
      · rw [hlen, slotCells_append us ss _ none HU1.out]
        exact ⟨HO2.out.1, fun j hj => by simp [Value.ownBlock] at hj; exact hj.symm⟩
      · by_cases hj : j < ss.length
        · rw [List.getElem?_append_left (by rw [HU1.out]; exact hj)] at hv
          rw [List.getElem?_append_left hj] at ht
          exact (HR1.out j v t hv ht).kept HK2'.out fun x hx e => by have e : w.heap.size ≤ x := e; omega
        · have hje : j = ss.length := by have := (List.getElem?_eq_some_iff.1 ht).1; simp at this; omega
          rw [List.getElem?_append_right (by rw [HU1.out]; omega), HU1.out, hje] at hv
          rw [List.getElem?_append_right (by omega), hje] at ht
          simp at hv ht
          rw [← hv, ← ht]
          rfl
    have hgl : g < w2.heap.size := HSO.out.2.1.blockLt rfl
    have HV2 := Lib.hid ((HV.out.kept HK1.out (fun _ _ f => f)).mono (G := fun x => x < w.heap.size ∨ w.heap.size ≤ x) fun k _ _ => by omega)
    have hvr : Reads w2 (.slice va b.length vc) (b.map (Value.int .u8)) (fun x => x < w.heap.size) := by
      have h1 := HV.out.mono (G := fun x => x < w.heap.size) fun k hk _ => hk
      exact (h1.kept HK1.out (fun _ _ f => f)).kept HK2'.out fun x hx e => by have e : w.heap.size ≤ x := e; omega
    have HCl := Lib.hid (clone_bytes w2 _ _ _ hvr (bytes_cells b) (by rw [List.length_map]; omega))
    clear hvr HV2
    refine HCl.out.mono ?_
    rintro e w3 ⟨b3, c3, rfl, ho3, hk3, -⟩
    rw [List.length_map] at ho3 ⊢
    have HO3 := Lib.hid ho3
    have HK3 := Lib.hid hk3
    have HS3 : Hid (SlotsOwn w3 (.slice (some ⟨g, 0, none⟩) (ss.length + 1) cap) (us ++ [.slice none 0 0]) (ss ++ [none]) (fun x => R x ∧ x < w.heap.size) (Just g)) :=
      Lib.hid ⟨HSO.out.1, HSO.out.2.1.kept hk3 (fun _ _ f => f), fun j v t a b => (HSO.out.2.2 j v t a b).kept hk3 (fun _ _ f => f)⟩
    have hcl := slotCells_length _ _ HS3.out.1
    have hln : (ss ++ [(none : Option (List Int))]).length = ss.length + 1 := by simp
    obtain ⟨y0, x0⟩ : ∃ y, w3.cell? ⟨g, ss.length * 2, none⟩ = some y := ⟨_, HS3.out.2.1.cell (ss.length * 2) _ (List.getElem?_eq_getElem (by omega))⟩
    obtain ⟨y1, x1⟩ : ∃ y, w3.cell? ⟨g, ss.length * 2 + 1, none⟩ = some y := ⟨_, HS3.out.2.1.cell (ss.length * 2 + 1) _ (List.getElem?_eq_getElem (by omega))⟩
    have f0 := HS3.out.2.1.frozen (ss.length * 2)
    have f1 := HS3.out.2.1.frozen (ss.length * 2 + 1)
    have gl := HS3.out.2.1.blockLt (g := g) rfl
    have HLn := Lib.hid hln
    clear ho3 hk3 HCl hcl hln
    go_wp2_with fail
    go_ret
    have hs1 := HK1.out.size
    have hs2 := HK2'.out.size
    have e : withOf ss ss.length b = ss ++ [some b] := by unfold withOf; rw [if_neg (by omega)]
    have hst := SlotsOwn.store (i := ss.length) HS3.out (by rw [HLn.out]; omega) (fun x hx e => by omega) HO3.out.reads (fun x hx e => by have hx : w2.heap.size ≤ x := hx; omega)
    have e2 : (ss ++ [(none : Option (List Int))]).set ss.length (some b) = ss ++ [some b] := by simp
    rw [e2] at hst
    have e3 : (ss ++ [some b]).length = ss.length + 1 := by simp
    have k02 : Kept (From w.heap.size) w w3 := (HK1.out.nob.trans' HK2'.out).trans' HK3.out.nob
    have k02' : Kept Nob w w3 := k02.mono fun x hx e => by have e : w.heap.size ≤ x := e; omega
    refine ⟨some ⟨g, 0, none⟩, cap, by rw [e, e3]; rfl, ?_, k02'.trans (kept2 w3 g _ _ _ _) fun x hx e => by have e : x = g := e; omega⟩
    rw [e, e3]
    exact hst.mono fun x _ hx => hx.elim (fun h => .inl h.1) fun h => h.elim (fun h => .inr (by have h : w2.heap.size ≤ x := h; omega)) fun h => .inr (by omega)
structure PgM where
  kind : Int
  id : Int
  ss : List (Option (List Int))
def PageAt (w : World) (pg : Nat) (p : PgM) (R : Nat → Prop) : Prop := ∃ lv, PageHead w pg p.kind p.id lv ∧ SlotsAt w lv p.ss R ∧ ¬ R pg
theorem PageAt.lt {w : World} {pg : Nat} {p : PgM} {R : Nat → Prop} (h : PageAt w pg p R) : pg < w.heap.size := by
  obtain ⟨lv, h1, -⟩ := h
  exact (Array.getElem?_eq_some_iff.1 h1).1
theorem PageAt.kept {w w' : World} {pg : Nat} {p : PgM} {R G : Nat → Prop} (h : PageAt w pg p R) (hk : Kept G w w') (hp : ¬ G pg) (hd : ∀ k, R k → ¬ G k) : PageAt w' pg p R := by
  have hlt := h.lt
  obtain ⟨lv, h1, h2, h3⟩ := h
  exact ⟨lv, (hk.block pg hlt hp).trans h1, h2.kept hk hd, h3⟩
theorem PageAt.mono {w : World} {pg : Nat} {p : PgM} {R G : Nat → Prop} (h : PageAt w pg p R) (hg : ∀ k, k < w.heap.size → R k → G k) (hp : ¬ G pg) : PageAt w pg p G := by
  obtain ⟨lv, h1, h2, h3⟩ := h
  exact ⟨lv, h1, h2.mono hg, hp⟩
def Sized (ss : List (Option (List Int))) : Prop := ss.length ≤ 60 ∧ ∀ s ∈ ss, slotLen s ≤ 512
theorem free1_any (w : World) (u : Value) (y : Bool) :
    Calls Tryz.prog 81 #[.agg #[u, .bool y]] w fun e w' => e = .returned (.bool (!y)) ∧ Kept Nob w w' := by
  go_enter Tryz.func81, Tryz.ntmps81
  go_wp2
  go_ret
  exact ⟨rfl, Kept.alloc _ _ _⟩
def freeIdx (ss : List (Option (List Int))) : Nat := ss.findIdx fun s => s.isNone
theorem freeIdx_le (ss : List (Option (List Int))) : freeIdx ss ≤ ss.length := List.findIdx_le_length
theorem freeIdx_of {ss : List (Option (List Int))} {k : Nat} (hk : k < ss.length) (h0 : ∀ j (h : j < k), (ss[j]'(by omega)).isSome = true) (h1 : ss[k].isSome = false) : freeIdx ss = k := by
  unfold freeIdx
  rw [List.findIdx_eq hk]
  refine ⟨by simpa using h1, fun j hj => ?_⟩
  have := h0 j hj
  cases hq : ss[j]'(by omega) with
  | none => rw [hq] at this; cases this
  | some b => rfl
theorem freeIdx_end {ss : List (Option (List Int))} (h0 : ∀ j (h : j < ss.length), (ss[j]).isSome = true) : freeIdx ss = ss.length := by
  unfold freeIdx
  rw [List.findIdx_eq_length]
  intro s hs
  obtain ⟨i, hi, rfl⟩ := List.getElem_of_mem hs
  have := h0 i hi
  cases hq : ss[i] with
  | none => rw [hq] at this; cases this
  | some b => rfl
def firstFree (ss : List (Option (List Int))) : Int := if freeIdx ss < ss.length then (freeIdx ss : Int) else -1
set_option maxRecDepth 100000 in
theorem slots_index (w : World) (lv : Value) (ss : List (Option (List Int))) (R : Nat → Prop) (h : SlotsAt w lv ss R) (hl : ss.length ≤ 1000) :
    Calls Tryz.prog 80 #[lv, .func (.func 81) #[] #[]] w fun e w' => e = .returned (.int .i64 (firstFree ss)) ∧ Kept Nob w w' := by
  obtain ⟨a, c, rfl, -⟩ := h.shape
  have H := Lib.hid h
  clear h
  go_enter Tryz.func80, Tryz.ntmps80
  go_wp2
  go_loopw [8] (fun i wr => ∃ k : Nat, k ≤ ss.length ∧ i = .int .i64 k ∧ (∀ j (h : j < ss.length), j < k → (ss[j]).isSome = true) ∧ Kept Nob w wr) (fun i _ => ss.length - (intOf i).toNat)
  case atStart => exact ⟨0, Nat.zero_le _, rfl, fun j _ h => by omega, Kept.refl _ _⟩
  case round =>
    obtain ⟨k, hk, rfl, hall, hkw⟩ := hrel
    have HA := Lib.hid hall
    have HK := Lib.hid hkw
    clear hall hkw
    by_cases hlt : k < ss.length
    · obtain ⟨b, o, u, rfl, -, hbl, -, c0, c1, -⟩ := (H.out.kept HK.out (fun _ _ f => f)).at hlt
      cases hy : ss[k].isSome with
      | true =>
        rw [hy] at c1
        have HN : Hid (∀ j (h : j < ss.length), j < k + 1 → (ss[j]).isSome = true) := Lib.hid fun j h hj => by
          by_cases hjk : j < k
          · exact HA.out j h hjk
          · obtain rfl : j = k := by omega
            exact hy
        clear hy
        go_wp2_with (go_at_call 81; refine (free1_any _ _ _).mono ?_; rintro e w2 ⟨rfl, hk2⟩; have HK2 := Lib.hid hk2; clear hk2)
        go_roundw
        case rel => exact ⟨k + 1, by omega, by go_num, HN.out, HK.out.then HK2.out⟩
        case measure => simp [intOf]; omega
      | false =>
        rw [hy] at c1
        have HN : Hid (freeIdx ss = k) := Lib.hid (freeIdx_of hlt (fun j h => HA.out j (by omega) h) hy)
        clear hy
        go_wp2_with (go_at_call 81; refine (free1_any _ _ _).mono ?_; rintro e w2 ⟨rfl, hk2⟩; have HK2 := Lib.hid hk2; clear hk2)
        go_ret
        exact ⟨ret_int (by unfold firstFree; rw [HN.out, if_pos hlt]), HK.out.then HK2.out⟩
    · have hke : k = ss.length := by omega
      have HN : Hid (freeIdx ss = ss.length) := Lib.hid (freeIdx_end fun j h => HA.out j h (by omega))
      go_wp2_with fail
      go_ret
      exact ⟨ret_int (by unfold firstFree; rw [HN.out, if_neg (by omega)]), HK.out⟩
set_option maxRecDepth 100000 in
theorem page_free (w : World) (pg : Nat) (p : PgM) (R : Nat → Prop) (h : PageAt w pg p R) (hl : p.ss.length ≤ 1000) :
    Calls Tryz.prog 45 #[.pointer (some ⟨pg, 0, none⟩)] w fun e w' => e = .returned (.int .i64 (freeIdx p.ss)) ∧ Kept Nob w w' := by
  obtain ⟨lv, h1, h2, h3⟩ := h
  obtain ⟨a, c, rfl, -⟩ := h2.shape
  have HG := Lib.hid (page_gone w pg p.kind p.id _ h1)
  have HI := Lib.hid (slots_index w _ p.ss R h2 hl)
  have c3 : w.cell? ⟨pg, 3, none⟩ = some (.slice a p.ss.length c) := cell_at h1 3 _ rfl
  have hfl := freeIdx_le p.ss
  have hpl : pg < w.heap.size := (Array.getElem?_eq_some_iff.1 h1).1
  have H1 := Lib.hid h1
  clear h1 h2 h3
  unfold firstFree at HI
  generalize freeIdx p.ss = q at *
  by_cases hq : q < p.ss.length
  · rw [if_pos hq] at HI
    go_enter Tryz.func45, Tryz.ntmps45
    go_wp2_with (first
      | (go_at_call 44; (with_reducible refine HG.out.mono ?_); rintro e w' ⟨rfl, rfl⟩)
      | (go_at_call 80; (with_reducible refine HI.out.mono ?_); rintro e w2 ⟨rfl, hk2⟩; have HK2 := Lib.hid hk2; clear hk2))
    go_ret
    exact ⟨rfl, HK2.out⟩
  · rw [if_neg hq] at HI
    have hqe : q = p.ss.length := by omega
    subst hqe
    have HC : Hid (∀ w', Kept Nob w w' → w'.cell? ⟨pg, 3, none⟩ = some (.slice a p.ss.length c)) := Lib.hid fun w' k => (k.cell hpl (fun f => f)).trans (cell_at H1.out 3 _ rfl)
    go_enter Tryz.func45, Tryz.ntmps45
    go_wp2_with (first
      | (go_at_call 44; (with_reducible refine HG.out.mono ?_); rintro e w' ⟨rfl, rfl⟩)
      | (go_at_call 80; (with_reducible refine HI.out.mono ?_); rintro e w2 ⟨rfl, hk2⟩; have d3 := HC.out w2 hk2; have HK2 := Lib.hid hk2; clear hk2))
    go_ret
    exact ⟨rfl, HK2.out⟩
def opPage : ByteArray := ⟨#[112, 97, 103, 101]⟩
theorem page_blame (w : World) (i : Int) (c : Int) :
    Calls Tryz.prog 82 #[.int .i64 i, .int .i64 c] w (RetFault w opPage i c) := by
  have HC := fun w => Lib.hid (fault_new w opPage i c)
  unfold opPage at HC
  go_enter Tryz.func82, Tryz.ntmps82
  go_wp2_with (go_at_call 31; refine (HC _).out.mono ?_; rintro e w2 ⟨g1, rfl, ho1, hk1⟩)
  go_ret
  exact ⟨g1, rfl, ho1, hk1⟩
theorem withOf_len (ss : List (Option (List Int))) (i : Nat) (b : List Int) : (withOf ss i b).length ≤ ss.length + 1 := by
  unfold withOf; split <;> simp
theorem withOf_sized {ss : List (Option (List Int))} {i : Nat} {b : List Int} {n : Nat} (h : ∀ s ∈ ss, slotLen s ≤ n) (hb : b.length ≤ n) : ∀ s ∈ withOf ss i b, slotLen s ≤ n := by
  intro s hs
  unfold withOf at hs
  split at hs
  · rcases List.mem_or_eq_of_mem_set hs with h1 | rfl
    · exact h s h1
    · exact hb
  · rcases List.mem_append.1 hs with h1 | h1
    · exact h s h1
    · rw [List.mem_singleton.1 h1]; exact hb
theorem RetFault.later {w w1 : World} {op : ByteArray} {id c : Int} {e : Ending} {w' : World} (h : RetFault w1 op id c e w') (hk : Kept Nob w w1) : RetFault w op id c e w' := by
  obtain ⟨g, rfl, hf, hk'⟩ := h
  exact ⟨g, rfl, hf.mono fun x _ hx => Nat.le_trans hk.size hx, hk.then hk'⟩
set_option maxRecDepth 100000 in
theorem page_put_no (w : World) (pg : Nat) (p : PgM) (R : Nat → Prop) (h : PageAt w pg p R) (hz : Sized p.ss) (i : Nat) (hi : i ≤ p.ss.length) (v : Value) (b : List Int) (G : Nat → Prop) (hb : Reads w v (b.map (Value.int .u8)) G) (hbl : b.length ≤ 1000) (c : Int)
    (hc : (400 < b.length ∧ c = 13) ∨ (b.length ≤ 400 ∧ 60 ≤ i ∧ c = 8) ∨ (b.length ≤ 400 ∧ i < 60 ∧ 512 < usedOf (withOf p.ss i b) ∧ c = 8)) :
    Calls Tryz.prog 46 #[.pointer (some ⟨pg, 0, none⟩), .int .i64 i, v] w (RetFault w opPage i c) := by
  obtain ⟨va, vc, rfl, -⟩ := hb.shape
  rw [List.length_map] at hb ⊢
  have HBl := fun w c => Lib.hid (page_blame w i c)
  rcases hc with ⟨h1, rfl⟩ | ⟨h1, h2, rfl⟩ | ⟨h1, h2, h3, rfl⟩
  · have t1 : (400 : Int) < (b.length : Int) := by omega
    clear h hb
    go_enter Tryz.func46, Tryz.ntmps46
    go_wp2_with (go_at_call 82; refine (HBl _ 13).out.mono ?_; rintro e w2 ⟨g1, rfl, ho1, hk1⟩)
    go_ret
    exact ⟨g1, rfl, ho1, hk1⟩
  · have t1 : ¬ (400 : Int) < (b.length : Int) := by omega
    have t2 : (60 : Int) ≤ (i : Int) := by omega
    obtain ⟨lv, q1, -, -⟩ := h
    have HG := Lib.hid (page_gone w pg p.kind p.id _ q1)
    clear hb q1
    go_enter Tryz.func46, Tryz.ntmps46
    go_wp2_with (first
      | (go_at_call 44; (with_reducible refine HG.out.mono ?_); rintro e w' ⟨rfl, rfl⟩)
      | (go_at_call 82; refine (HBl _ 8).out.mono ?_; rintro e w2 ⟨g1, rfl, ho1, hk1⟩))
    go_ret
    exact ⟨g1, rfl, ho1, hk1⟩
  · have t1 : ¬ (400 : Int) < (b.length : Int) := by omega
    have t2 : ¬ (60 : Int) ≤ (i : Int) := by omega
    obtain ⟨lv, q1, q2, -⟩ := h
    obtain ⟨la, lc, rfl, -⟩ := q2.shape
    have HG := Lib.hid (page_gone w pg p.kind p.id _ q1)
    have c3 : w.cell? ⟨pg, 3, none⟩ = some (.slice la p.ss.length lc) := cell_at q1 3 _ rfl
    have HW := Lib.hid (slots_with w _ p.ss R q2 (by have := hz.1; omega) i hi _ b G hb (by omega))
    have HU : Hid (∀ w' a c S, SlotsAt w' (.slice a (withOf p.ss i b).length c) (withOf p.ss i b) S → Calls Tryz.prog 84 #[.slice a (withOf p.ss i b).length c] w' fun e w2 => e = .returned (.int .i64 (usedOf (withOf p.ss i b))) ∧ Kept Nob w' w2) :=
      Lib.hid fun w' a c S hs => slots_used w' _ _ S hs (by have := withOf_len p.ss i b; have := hz.1; omega) (withOf_sized (fun s hs => by have := hz.2 s hs; omega) (by omega))
    have h3' : ¬ (usedOf (withOf p.ss i b) : Int) ≤ 512 := by omega
    clear hb q1 q2 hz
    generalize withOf p.ss i b = zs at *
    generalize usedOf zs = uz at *
    go_enter Tryz.func46, Tryz.ntmps46
    go_wp2_with (first
      | (go_at_call 44; (with_reducible refine HG.out.mono ?_); rintro e w' ⟨rfl, rfl⟩)
      | (go_at_call 83; (with_reducible refine HW.out.mono ?_); rintro e w1 ⟨a1, c1, rfl, hs1, hk1⟩; have HU1 := Lib.hid (HU.out _ _ _ _ hs1); have HK1 := Lib.hid hk1; clear hs1 hk1)
      | (go_at_call 84; (with_reducible refine HU1.out.mono ?_); rintro e w2 ⟨rfl, hk2⟩; have HK2 := Lib.hid (HK1.out.then hk2); clear hk2)
      | (go_at_call 82; refine (HBl _ 8).out.mono ?_; rintro e w3 ⟨g1, rfl, ho1, hk1⟩))
    go_ret
    exact RetFault.later ⟨g1, rfl, ho1, hk1⟩ HK2.out
set_option maxRecDepth 100000 in
theorem page_put (w : World) (pg : Nat) (p : PgM) (R : Nat → Prop) (h : PageAt w pg p R) (hz : Sized p.ss) (i : Nat) (hi : i ≤ p.ss.length) (v : Value) (b : List Int) (G : Nat → Prop) (hb : Reads w v (b.map (Value.int .u8)) G) (h1 : b.length ≤ 400) (h2 : i < 60) (h3 : usedOf (withOf p.ss i b) ≤ 512) :
    Calls Tryz.prog 46 #[.pointer (some ⟨pg, 0, none⟩), .int .i64 i, v] w fun e w' => e = .returned .nilIface ∧ PageAt w' pg { p with ss := withOf p.ss i b } (fun x => (R x ∧ x < w.heap.size) ∨ w.heap.size ≤ x) ∧ Kept (Just pg) w w' := by
  obtain ⟨va, vc, rfl, -⟩ := hb.shape
  rw [List.length_map] at hb ⊢
  have t1 : ¬ (400 : Int) < (b.length : Int) := by omega
  have t2 : ¬ (60 : Int) ≤ (i : Int) := by omega
  have hpl := h.lt
  obtain ⟨lv, q1, q2, q3⟩ := h
  have q2 := q2.mono (G := fun x => R x ∧ x < w.heap.size) fun k hk hr => ⟨hr, hk⟩
  obtain ⟨la, lc, rfl, -⟩ := q2.shape
  have HG := Lib.hid (page_gone w pg p.kind p.id _ q1)
  have c3 : w.cell? ⟨pg, 3, none⟩ = some (.slice la p.ss.length lc) := cell_at q1 3 _ rfl
  have HW := Lib.hid (slots_with w _ p.ss _ q2 (by have := hz.1; omega) i hi _ b G hb (by omega))
  have HU : Hid (∀ w' a c S, SlotsAt w' (.slice a (withOf p.ss i b).length c) (withOf p.ss i b) S → Calls Tryz.prog 84 #[.slice a (withOf p.ss i b).length c] w' fun e w2 => e = .returned (.int .i64 (usedOf (withOf p.ss i b))) ∧ Kept Nob w' w2) :=
    Lib.hid fun w' a c S hs => slots_used w' _ _ S hs (by have := withOf_len p.ss i b; have := hz.1; omega) (withOf_sized (fun s hs => by have := hz.2 s hs; omega) (by omega))
  have h3' : (usedOf (withOf p.ss i b) : Int) ≤ 512 := by omega
  have H1 := Lib.hid q1
  have H3 := Lib.hid q3
  clear hb q1 q2 q3 hz
  generalize withOf p.ss i b = zs at *
  generalize usedOf zs = uz at *
  go_enter Tryz.func46, Tryz.ntmps46
  go_wp2_with (first
    | (go_at_call 44; (with_reducible refine HG.out.mono ?_); rintro e w' ⟨rfl, rfl⟩)
    | (go_at_call 83; (with_reducible refine HW.out.mono ?_); rintro e w1 ⟨a1, c1, rfl, hs1, hk1⟩; have HU1 := Lib.hid (HU.out _ _ _ _ hs1); have HK1 := Lib.hid hk1; have HS1 := Lib.hid hs1; clear hs1 hk1)
    | (go_at_call 84; (with_reducible refine HU1.out.mono ?_); rintro e w2 ⟨rfl, hk2⟩; have HK2 := Lib.hid (HK1.out.then hk2); have HS2 := Lib.hid (HS1.out.kept hk2 (fun _ _ f => f)); have hb2 := (HK2.out.block pg hpl (fun f => f)).trans H1.out; have d3 := cell_at hb2 3 _ rfl; have f3 := frozen_at hb2 3; have HB2 := Lib.hid hb2; clear hk2 hb2))
  go_ret
  have k3 := kept1 w2 pg 3 (.slice a1 zs.length c1)
  have hnp : ∀ x, ((R x ∧ x < w.heap.size) ∨ w.heap.size ≤ x) → ¬ Just pg x := fun x hx e => by
    have e : x = pg := e
    subst e
    rcases hx with hx | hx
    · exact H3.out hx.1
    · omega
  exact ⟨rfl, ⟨_, heap_set w2 pg 3 _ _ _ HB2.out, (HS2.out.kept k3 hnp), fun e => hnp pg e rfl⟩, HK2.out.nob.trans' k3⟩
def RetNoInsert (w : World) (i c : Int) (en : Ending) (w' : World) : Prop :=
  ∃ g, en = .returned (.tuple #[.int .i64 0, .iface 81 (.pointer (some ⟨g, 0, none⟩))]) ∧ FaultAt w' (.iface 81 (.pointer (some ⟨g, 0, none⟩))) opPage i c (From w.heap.size) ∧ Kept Nob w w'
theorem page_insert_no (w : World) (pg : Nat) (p : PgM) (R : Nat → Prop) (h : PageAt w pg p R) (hz : Sized p.ss) (v : Value) (b : List Int) (G : Nat → Prop) (hb : Reads w v (b.map (Value.int .u8)) G) (hbl : b.length ≤ 1000) (c : Int)
    (hc : (400 < b.length ∧ c = 13) ∨ (b.length ≤ 400 ∧ 60 ≤ freeIdx p.ss ∧ c = 8) ∨ (b.length ≤ 400 ∧ freeIdx p.ss < 60 ∧ 512 < usedOf (withOf p.ss (freeIdx p.ss) b) ∧ c = 8)) :
    Calls Tryz.prog 24 #[.pointer (some ⟨pg, 0, none⟩), v] w (RetNoInsert w (freeIdx p.ss) c) := by
  have HF := Lib.hid (page_free w pg p R h (by have := hz.1; omega))
  have HP : Hid (∀ w1, Kept Nob w w1 → Calls Tryz.prog 46 #[.pointer (some ⟨pg, 0, none⟩), .int .i64 (freeIdx p.ss), v] w1 (RetFault w1 opPage (freeIdx p.ss) c)) :=
    Lib.hid fun w1 k => page_put_no w1 pg p R (h.kept k (fun f => f) (fun _ _ f => f)) hz _ (freeIdx_le _) v b G (hb.kept k (fun _ _ f => f)) hbl c hc
  clear h hz hb hc
  generalize freeIdx p.ss = q at *
  go_enter Tryz.func24, Tryz.ntmps24
  go_wp2_with (first
    | (go_at_call 45; (with_reducible refine HF.out.mono ?_); rintro e w1 ⟨rfl, hk1⟩; have HK1 := Lib.hid hk1; clear hk1)
    | (go_at_call 46; (with_reducible refine (HP.out _ HK1.out).mono ?_); rintro e w2 ⟨g1, rfl, ho1, hk1⟩))
  go_ret2
  exact ⟨g1, rfl, ho1.mono fun x _ hx => Nat.le_trans HK1.out.size hx, HK1.out.then hk1⟩
theorem page_insert (w : World) (pg : Nat) (p : PgM) (R : Nat → Prop) (h : PageAt w pg p R) (hz : Sized p.ss) (v : Value) (b : List Int) (G : Nat → Prop) (hb : Reads w v (b.map (Value.int .u8)) G) (h1 : b.length ≤ 400) (h2 : freeIdx p.ss < 60) (h3 : usedOf (withOf p.ss (freeIdx p.ss) b) ≤ 512) :
    Calls Tryz.prog 24 #[.pointer (some ⟨pg, 0, none⟩), v] w fun e w' => e = .returned (.tuple #[.int .i64 (freeIdx p.ss), .nilIface]) ∧ PageAt w' pg { p with ss := withOf p.ss (freeIdx p.ss) b } (fun x => (R x ∧ x < w.heap.size) ∨ w.heap.size ≤ x) ∧ Kept (Just pg) w w' := by
  have hpl := h.lt
  have HNp : Hid (¬ R pg) := by obtain ⟨lv, -, -, q⟩ := h; exact q
  have HF := Lib.hid (page_free w pg p R h (by have := hz.1; omega))
  have HP : Hid (∀ w1, Kept Nob w w1 → Calls Tryz.prog 46 #[.pointer (some ⟨pg, 0, none⟩), .int .i64 (freeIdx p.ss), v] w1 fun e w' => e = .returned .nilIface ∧ PageAt w' pg { p with ss := withOf p.ss (freeIdx p.ss) b } (fun x => (R x ∧ x < w.heap.size) ∨ w.heap.size ≤ x) ∧ Kept (Just pg) w1 w') :=
    Lib.hid fun w1 k => by
      have h' := (h.kept k (fun f => f) (fun _ _ f => f))
      have h' : PageAt w1 pg p (fun x => R x ∧ x < w.heap.size) := by
        obtain ⟨lv, q1, q2, q3⟩ := h
        exact ⟨lv, (k.block pg hpl (fun f => f)).trans q1, (q2.mono (G := fun x => R x ∧ x < w.heap.size) fun y hy hr => ⟨hr, hy⟩).kept k (fun _ _ f => f), fun e => q3 e.1⟩
      refine (page_put w1 pg p _ h' hz _ (freeIdx_le _) v b G (hb.kept k (fun _ _ f => f)) h1 h2 h3).mono ?_
      rintro e w' ⟨rfl, hp, hk⟩
      have hs := k.size
      refine ⟨rfl, hp.mono (fun x _ hx => ?_) (fun e => ?_), hk⟩
      · rcases hx with hx | hx
        · exact .inl hx.1
        · exact .inr (by omega)
      · rcases e with e | e
        · exact HNp.out e.1
        · omega
  clear h hz hb h2 h3
  generalize freeIdx p.ss = q at *
  go_enter Tryz.func24, Tryz.ntmps24
  go_wp2_with (first
    | (go_at_call 45; (with_reducible refine HF.out.mono ?_); rintro e w1 ⟨rfl, hk1⟩; have HK1 := Lib.hid hk1; clear hk1)
    | (go_at_call 46; (with_reducible refine (HP.out _ HK1.out).mono ?_); rintro e w2 ⟨rfl, hp2, hk2⟩))
  go_ret2
  exact ⟨rfl, hp2, HK1.out.nob.trans' hk2⟩
def put2 (ys : List Int) (o : Nat) (n : Int) : List Int := (ys.set o (n % 256)).set (o + 1) (n / 256 % 256)
def put4 (ys : List Int) (o : Nat) (n : Int) : List Int := put2 (put2 ys o n) (o + 2) (n / 65536)
theorem put2_length (ys : List Int) (o : Nat) (n : Int) : (put2 ys o n).length = ys.length := by simp [put2]
theorem put4_length (ys : List Int) (o : Nat) (n : Int) : (put4 ys o n).length = ys.length := by simp [put4, put2_length]
def BytesAt (w : World) (g n cap : Nat) (ys : List Int) (F : Nat → Prop) : Prop := Own w 5 (.slice (some ⟨g, 0, none⟩) n cap) (ys.map (Value.int .u8)) F
theorem put16_any (w : World) (g n cap : Nat) (ys : List Int) (F : Nat → Prop) (h : BytesAt w g n cap ys F) (o l c : Nat) (hl : 2 ≤ l) (ho : o + 2 ≤ ys.length) (x : Int) :
    Calls Tryz.prog 93 #[.slice (some ⟨g, o, none⟩) l c, .int .i64 x] w fun e w' => e = .returned (.tuple #[]) ∧ BytesAt w' g n cap (put2 ys o x) F ∧ Kept (Just g) w w' := by
  have c0 : w.cell? ⟨g, o, none⟩ = some (.int .u8 ys[o]) := h.cell o _ (by simp)
  have c1 : w.cell? ⟨g, o + 1, none⟩ = some (.int .u8 ys[o + 1]) := h.cell (o + 1) _ (by simp)
  have f0 := h.frozen o
  have f1 := h.frozen (o + 1)
  have t1 : (0 : Int) < (l : Int) := by omega
  have t2 : (1 : Int) < (l : Int) := by omega
  have H := Lib.hid h
  clear h
  generalize ys[o] = y0 at *
  generalize ys[o + 1] = y1 at *
  go_enter Tryz.func93, Tryz.ntmps93
  go_wp2
  refine bodyPost_end (results_none rfl _ _ _) rfl ?_
  have k2 := kept2 w g o (o + 1) (.int .u8 (x % 256)) (.int .u8 (x / 256 % 256))
  refine ⟨rfl, ?_, k2⟩
  have := (H.out.set o (.int .u8 (x % 256))).set (o + 1) (.int .u8 (x / 256 % 256))
  unfold BytesAt put2
  rw [List.map_set, List.map_set]
  exact this
theorem put32_any (w : World) (g n cap : Nat) (ys : List Int) (F : Nat → Prop) (h : BytesAt w g n cap ys F) (o l c : Nat) (hl : 4 ≤ l) (hc : l ≤ c) (ho : o + 4 ≤ ys.length) (x : Int) :
    Calls Tryz.prog 92 #[.slice (some ⟨g, o, none⟩) l c, .int .i64 x] w fun e w' => e = .returned (.tuple #[]) ∧ BytesAt w' g n cap (put4 ys o x) F ∧ Kept (Just g) w w' := by
  have H1 := Lib.hid (put16_any w g n cap ys F h o l c (by omega) (by omega) x)
  have H2 : Hid (∀ w1, BytesAt w1 g n cap (put2 ys o x) F → Calls Tryz.prog 93 #[.slice (some ⟨g, o + 2, none⟩) (l - 2) (c - 2), .int .i64 (x / 65536)] w1 fun e w' => e = .returned (.tuple #[]) ∧ BytesAt w' g n cap (put4 ys o x) F ∧ Kept (Just g) w1 w') :=
    Lib.hid fun w1 h1 => put16_any w1 g n cap _ F h1 (o + 2) (l - 2) (c - 2) (by omega) (by rw [put2_length]; omega) (x / 65536)
  have t1 : (2 : Int) ≤ (l : Int) := by omega
  have t2 : ¬ c = 2 := by omega
  have t3 : 2 ≤ l := by omega
  have t4 : 2 ≤ c := by omega
  clear h
  go_enter Tryz.func92, Tryz.ntmps92
  go_wp2_with fail
  refine H1.out.mono ?_
  rintro e w1 ⟨rfl, hb1, hk1⟩
  have HK1 := Lib.hid hk1
  have HB1 := Lib.hid (H2.out w1 hb1)
  clear hb1 hk1
  go_wp2_with fail
  refine HB1.out.mono ?_
  rintro e w2 ⟨rfl, hb2, hk2⟩
  have HB2 := Lib.hid hb2
  have HK2 := Lib.hid (HK1.out.trans' hk2)
  clear hb2 hk2
  go_wp2_with fail
  refine bodyPost_end (results_none rfl _ _ _) rfl ?_
  exact ⟨rfl, HB2.out, HK2.out⟩
def crcBit (z : Int) : Int := bits BinOp.xor IntKind.u32 (z / 2) (bits BinOp.and IntKind.u32 3988292384 (-bits BinOp.and IntKind.u32 z 1 % 4294967296))
def crcBits : Nat → Int → Int
  | 0, z => z
  | n + 1, z => crcBits n (crcBit z)
def crcByte (x y : Int) : Int := crcBits 8 (bits BinOp.xor IntKind.u32 x (y % 4294967296))
def crc (ys : List Int) : Int := bits BinOp.xor IntKind.u32 IntKind.u32.max (ys.foldl crcByte 4294967295)
theorem crc_take (ys : List Int) (k : Nat) (h : k < ys.length) : (ys.take (k + 1)).foldl crcByte 4294967295 = crcByte ((ys.take k).foldl crcByte 4294967295) ys[k] := by
  rw [List.take_succ_eq_append_getElem h, List.foldl_append]; rfl
set_option maxRecDepth 100000 in
theorem frame_sum (w : World) (v : Value) (ys : List Int) (F : Nat → Prop) (h : Reads w v (ys.map (Value.int .u8)) F) (hl : ys.length ≤ 1000000) :
    Calls Tryz.prog 94 #[v] w fun e w' => e = .returned (.int .u32 (crc ys)) ∧ w = w' := by
  obtain ⟨a, c, rfl, -⟩ := h.shape
  rw [List.length_map] at h ⊢
  have H := Lib.hid h
  clear h
  go_enter Tryz.func94, Tryz.ntmps94
  go_wp2
  go_loop [3, 8] (fun r i => ∃ (k : Nat) (x : Int), k ≤ ys.length ∧ i = .int .i64 k ∧ r = .int .u32 x ∧ Hid (x = (ys.take k).foldl crcByte 4294967295)) (fun _ i => ys.length - (intOf i).toNat)
  case atStart => exact ⟨0, 4294967295, Nat.zero_le _, rfl, rfl, rfl⟩
  case round =>
    obtain ⟨k, x, hk, rfl, rfl, hx⟩ := hrel
    by_cases hlt : k < ys.length
    · obtain ⟨b, o, y, rfl, hy, hc, -⟩ := H.out.cell (i := k) (by simpa using hlt)
      obtain rfl : y = .int .u8 ys[k] := by
        rw [List.getElem?_map, List.getElem?_eq_getElem hlt] at hy
        exact (Option.some.inj hy).symm
      clear hy
      have HT := Lib.hid (crc_take ys k hlt)
      generalize ys[k] = y at *
      obtain ⟨s0, hs0⟩ : ∃ s0, bits BinOp.xor IntKind.u32 x (y % 4294967296) = s0 := ⟨_, rfl⟩
      have HS0 : Hid (crcBits 8 s0 = (ys.take (k + 1)).foldl crcByte 4294967295) := Lib.hid (by rw [HT.out, ← hx.out, ← hs0]; rfl)
      go_wp2_with fail
      clear hs0 HT hx
      go_loop [3, 16] (fun r i => ∃ (j : Nat) (z : Int), j ≤ 8 ∧ i = .int .i64 j ∧ r = .int .u32 z ∧ Hid (crcBits (8 - j) z = (ys.take (k + 1)).foldl crcByte 4294967295)) (fun _ i => 8 - (intOf i).toNat)
      case atStart => exact ⟨0, s0, by omega, rfl, rfl, HS0⟩
      case round =>
        clear HS0
        obtain ⟨j, z, hj, rfl, rfl, hz⟩ := hrel
        by_cases hj8 : j < 8
        · have HN : Hid (crcBits (8 - (j + 1)) (crcBit z) = (ys.take (k + 1)).foldl crcByte 4294967295) := Lib.hid (by rw [← hz.out, show 8 - j = (8 - (j + 1)) + 1 from by omega]; rfl)
          go_wp2_with fail
          go_round
          case rel => exact ⟨j + 1, crcBit z, by omega, by go_num, rfl, HN⟩
          case measure => simp [intOf]; omega
        · have hje : j = 8 := by omega
          subst hje
          go_wp2_with fail
          go_round
          case rel => exact ⟨k + 1, z, by omega, by go_num, rfl, hz⟩
          case measure => simp [intOf]; omega
    · have hke : k = ys.length := by omega
      subst hke
      have HN : Hid (crc ys = bits BinOp.xor IntKind.u32 IntKind.u32.max x) := Lib.hid (by unfold crc; rw [hx.out, List.take_length])
      go_wp2_with fail
      go_ret
      exact ⟨by rw [HN.out]; rfl, rfl⟩
end Go.Proofs.YthppgchmamonnaaGreatDoor
