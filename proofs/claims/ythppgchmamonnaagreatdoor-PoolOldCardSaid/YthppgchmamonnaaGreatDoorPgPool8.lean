/- The pool: Pin of a page that is not held; refused. -/
import Derived.Test.YthppgchmamonnaaGreatDoorPgPool7
namespace Go.Proofs.YthppgchmamonnaaGreatDoor
open Go.RowKit

/-- behind a Pin that is refused -/
def RetNoPage (w : World) (k : Int) (c : Int) (F : Nat → Prop) (en : Ending) (w' : World) : Prop :=
  ∃ g, en = .returned (.tuple #[.pointer none, .iface 81 (.pointer (some ⟨g, 0, none⟩))]) ∧ FaultAt w' (.iface 81 (.pointer (some ⟨g, 0, none⟩))) opPool k c (From w.heap.size) ∧ Kept F w w'
set_option maxRecDepth 100000 in
theorem pool_pin_nil (w : World) (k : Int) :
    Calls Tryz.prog 12 #[.pointer none, .int .i64 k] w (RetNoPage w k 2 Nob) := by
  have HC := fun w => Lib.hid (fault_new w opPool k 2)
  unfold opPool at HC
  go_enter Tryz.func12, Tryz.ntmps12
  go_wp2_with (first
    | (go_at_call 34; refine (pool_gone_nil _).mono ?_; rintro e w' ⟨rfl, rfl⟩)
    | (go_at_call 31; refine (HC _).out.mono ?_; rintro e w2 ⟨g1, rfl, ho1, hk1⟩))
  go_ret2
  exact ⟨g1, rfl, ho1, hk1⟩
set_option maxRecDepth 100000 in
theorem pool_pin_range (w : World) (b bd mb : Nat) (P : Pl) (S : Nat → Prop) (h : PoolAt w b bd mb P S) (k : Int) (hk : k < 0 ∨ (P.pages : Int) ≤ k) :
    Calls Tryz.prog 12 #[.pointer (some ⟨b, 0, none⟩), .int .i64 k] w (RetNoPage w k 2 Nob) := by
  have HC := fun w => Lib.hid (fault_new w opPool k 2)
  unfold opPool at HC
  have HG := Lib.hid (pool_gone w b bd mb P S h)
  have c1 : w.cell? ⟨b, 1, none⟩ = some (.int .i64 P.pages) := cell_at h.head 1 _ rfl
  clear h
  by_cases h0 : k < 0
  · have t0 : decide (k < 0) = true := by simpa using h0
    clear h0
    go_enter Tryz.func12, Tryz.ntmps12
    go_wp2_with (first
      | (go_at_call 34; refine HG.out.mono ?_; rintro e w' ⟨rfl, rfl⟩)
      | (go_at_call 31; refine (HC _).out.mono ?_; rintro e w2 ⟨g1, rfl, ho1, hk1⟩))
    go_ret2
    exact ⟨g1, rfl, ho1, hk1⟩
  · have h1 : (P.pages : Int) ≤ k := by omega
    go_enter Tryz.func12, Tryz.ntmps12
    go_wp2_with (first
      | (go_at_call 34; refine HG.out.mono ?_; rintro e w' ⟨rfl, rfl⟩)
      | (go_at_call 31; refine (HC _).out.mono ?_; rintro e w2 ⟨g1, rfl, ho1, hk1⟩))
    go_ret2
    exact ⟨g1, rfl, ho1, hk1⟩
set_option maxRecDepth 100000 in
theorem pool_pin_full (w : World) (b bd mb : Nat) (P : Pl) (S : Nat → Prop) (h : PoolAt w b bd mb P S) (k : Nat) (hno : find P.map k = none) (hkp : k < P.pages) (hpp : P.pages ≤ 100000) (F : Nat → Prop) (c : Int)
    (HE : Hid (Calls Tryz.prog 35 #[.pointer (some ⟨b, 0, none⟩)] w fun e w1 => e = .returned (.iface 69 (.int .i64 c)) ∧ Kept F w w1)) :
    Calls Tryz.prog 12 #[.pointer (some ⟨b, 0, none⟩), .int .i64 k] w (RetNoPage w k c F) := by
  have HC := fun w => Lib.hid (fault_new w opPool k c)
  unfold opPool at HC
  have HG := Lib.hid (pool_gone w b bd mb P S h)
  have c1 : w.cell? ⟨b, 1, none⟩ = some (.int .i64 P.pages) := cell_at h.head 1 _ rfl
  have c5 : w.cell? ⟨b, 5, none⟩ = some (.map (some mb)) := cell_at h.head 5 _ rfl
  have hlk := h.look_ok (k : Int) (by omega) (by omega)
  rw [hno] at hlk
  simp only [ptrOf, Option.isSome] at hlk
  have t0 : ¬ (k : Int) < 0 := by omega
  have t1 : ¬ (P.pages : Int) ≤ (k : Int) := by omega
  clear h hno
  go_enter Tryz.func12, Tryz.ntmps12
  go_wp2_with (first
    | (go_at_call 34; refine HG.out.mono ?_; rintro e w' ⟨rfl, rfl⟩)
    | (go_at_call 35; refine HE.out.mono ?_; rintro e w2 ⟨rfl, hk2⟩; have HK2 := Lib.hid hk2; clear hk2)
    | (go_at_call 31; refine (HC _).out.mono ?_; rintro e w3 ⟨g1, rfl, ho1, hk1⟩))
  go_ret2
  exact ⟨g1, rfl, ho1.mono fun x _ hx => Nat.le_trans HK2.out.size hx, HK2.out.then hk1⟩

theorem ins_mem_split (k : Int) (g : Nat) : ∀ l : List (Int × Nat), ∃ a c, l = a ++ c ∧ ins k g l = a ++ (k, g) :: c := by
  intro l
  induction l with
  | nil => exact ⟨[], [], rfl, rfl⟩
  | cons y r ih =>
    rw [ins]
    split
    · exact ⟨[], y :: r, rfl, rfl⟩
    · obtain ⟨a, c, h1, h2⟩ := ih
      exact ⟨y :: a, c, by rw [h1]; rfl, by rw [h2]; rfl⟩
/-- a page is put into its place -/
def insH (k : Int) (x : Hd) : List (Int × Hd) → List (Int × Hd)
  | [] => [(k, x)]
  | y :: r => if k < y.1 then (k, x) :: y :: r else y :: insH k x r
theorem insH_map (k : Int) (x : Hd) : ∀ l : List (Int × Hd), (insH k x l).map (fun p => (p.1, p.2.g)) = ins k x.g (l.map fun p => (p.1, p.2.g)) := by
  intro l
  induction l with
  | nil => rfl
  | cons y r ih =>
    simp only [insH, ins, List.map_cons]
    by_cases h : k < y.1
    · rw [if_pos h, if_pos h]; rfl
    · rw [if_neg h, if_neg h, List.map_cons, ih]
theorem insH_mem {k : Int} {x : Hd} {p : Int × Hd} : ∀ {l : List (Int × Hd)}, p ∈ insH k x l ↔ p = (k, x) ∨ p ∈ l := by
  intro l
  induction l with
  | nil => simp [insH]
  | cons y r ih =>
    simp only [insH]
    by_cases h : k < y.1
    · rw [if_pos h]; simp
    · rw [if_neg h, List.mem_cons, ih, List.mem_cons]
      constructor
      · rintro (h | h | h)
        · exact .inr (.inl h)
        · exact .inl h
        · exact .inr (.inr h)
      · rintro (h | h | h)
        · exact .inr (.inl h)
        · exact .inl h
        · exact .inr (.inr h)
theorem insH_length (k : Int) (x : Hd) : ∀ l : List (Int × Hd), (insH k x l).length = l.length + 1 := by
  intro l
  induction l with
  | nil => rfl
  | cons y r ih =>
    rw [insH]
    split
    · rfl
    · rw [List.length_cons, ih, List.length_cons]
theorem insH_once {k : Int} {x : Hd} : ∀ {l : List (Int × Hd)}, (l.Pairwise fun p q => p.2.g ≠ q.2.g) → (∀ p ∈ l, p.2.g ≠ x.g) → (insH k x l).Pairwise fun p q => p.2.g ≠ q.2.g := by
  intro l
  induction l with
  | nil => intro _ _; exact List.pairwise_singleton _ _
  | cons y r ih =>
    intro h hn
    rw [insH]
    split
    · exact List.pairwise_cons.2 ⟨fun p hp => (hn p hp).symm, h⟩
    · rw [List.pairwise_cons] at h
      refine List.pairwise_cons.2 ⟨fun p hp => ?_, ih h.2 fun p hp => hn p (List.mem_cons_of_mem _ hp)⟩
      rcases insH_mem.1 hp with rfl | hp
      · exact hn y (by simp)
      · exact h.1 p hp
/-- behind a Pin of a page that was not held -/
def Pl.add (P : Pl) (k : Int) (x : Hd) : Pl := { P with clock := P.clock + 1, all := insH k x P.all }

set_option maxHeartbeats 1000000 in
set_option maxRecDepth 100000 in
theorem pool_pin_new (w : World) (b bd mb : Nat) (P : Pl) (S : Nat → Prop) (h : PoolAt w b bd mb P S) (k : Nat) (hno : find P.map k = none) (hkp : k < P.pages) (hpp : P.pages ≤ 100000)
    (Q : Pl → (Nat → Prop) → Nat → World → Prop)
    (HE : Hid (Calls Tryz.prog 35 #[.pointer (some ⟨b, 0, none⟩)] w fun e w1 => e = .returned .nilIface ∧
      Calls Tryz.prog 36 #[.pointer (some ⟨b, 0, none⟩), .int .i64 k] w1 fun e w2 => ∃ P2 S2 pg, e = .returned (.tuple #[.pointer (some ⟨pg, 0, none⟩), .nilIface]) ∧ PoolAt w2 b bd mb P2 S2 ∧ Q P2 S2 pg w2 ∧ P2.clock ≤ 1000000000000 ∧ P2.all.length ≤ 100000 ∧ find P2.map k = none)) :
    Calls Tryz.prog 12 #[.pointer (some ⟨b, 0, none⟩), .int .i64 k] w fun e w' => ∃ P2 S2 pg w2 g, Q P2 S2 pg w2 ∧
      e = .returned (.tuple #[.pointer (some ⟨pg, 0, none⟩), .nilIface]) ∧ PoolAt w' b bd mb (P2.add k ⟨g, pg, 1, false, 0, P2.clock + 1⟩) (fun x => S2 x ∨ x = g) ∧ w2.heap.size = g ∧ g < w'.heap.size ∧ Kept (fun x => x = b ∨ x = mb) w2 w' := by
  have HG := Lib.hid (pool_gone w b bd mb P S h)
  have c1 : w.cell? ⟨b, 1, none⟩ = some (.int .i64 P.pages) := cell_at h.head 1 _ rfl
  have c5 : w.cell? ⟨b, 5, none⟩ = some (.map (some mb)) := cell_at h.head 5 _ rfl
  have hlk := h.look_ok (k : Int) (by omega) (by omega)
  rw [hno] at hlk
  simp only [ptrOf, Option.isSome] at hlk
  have t0 : ¬ (k : Int) < 0 := by omega
  have t1 : ¬ (P.pages : Int) ≤ (k : Int) := by omega
  clear h hno
  go_enter Tryz.func12, Tryz.ntmps12
  go_upto_region 12 with (first
    | (go_at_call 34; refine HG.out.mono ?_; rintro e w' ⟨rfl, rfl⟩)
    | (go_at_call 35; refine HE.out.mono ?_; rintro e w1 ⟨rfl, hrd⟩; have HRd := Lib.hid hrd; clear hrd)
    | (go_at_call 36; refine HRd.out.mono ?_; rintro e w2 ⟨P2, S2, pg, rfl, hp2, hq, hcl, hln, hno2⟩; have HQ := Lib.hid hq; have HP := Lib.hid hp2; have HN := Lib.hid hno2; clear hp2 hq hno2))
  clear c1 c5 hlk t0 t1
  have k1 : Kept Nob w2 (w2.alloc (.cells #[.pointer (some ⟨pg, 0, none⟩), .int .i64 0, .bool false, .int .i64 0, .int .i64 0] 80)) := Kept.alloc _ _ _
  have hb1 := heap_alloc_new w2 (.cells #[.pointer (some ⟨pg, 0, none⟩), .int .i64 0, .bool false, .int .i64 0, .int .i64 0] 80)
  have hp1 := HP.out.nob k1
  obtain ⟨w5, hup, hm5, hk5⟩ := hp1.map.store Tryz.underlying74 (by rw [show P2.map.length = P2.all.length from by simp [Pl.map]]; show _ < maxLen; unfold maxLen; omega) k (by simp only [Lit.wf, Bool.and_eq_true, decide_eq_true_eq]; exact ⟨by show -9223372036854775808 ≤ (k : Int); omega, by show (k : Int) ≤ 9223372036854775807; omega⟩) w2.heap.size
  have c5 : (w2.alloc (.cells #[.pointer (some ⟨pg, 0, none⟩), .int .i64 0, .bool false, .int .i64 0, .int .i64 0] 80)).cell? ⟨b, 5, none⟩ = some (.map (some mb)) := cell_at hp1.head 5 _ rfl
  have hb5 := (hk5.block b hp1.lt hp1.bm).trans hp1.head
  have hgm : ¬ Just mb w2.heap.size := fun e => by have := HP.out.map.lt; have e : w2.heap.size = mb := e; omega
  have hbg : b ≠ w2.heap.size := by have := HP.out.lt; omega
  have hg5 := (hk5.block w2.heap.size (by simp) hgm).trans hb1
  have c4 : w5.cell? ⟨b, 4, none⟩ = some (.int .i64 P2.clock) := cell_at hb5 4 _ rfl
  have f4 := frozen_at hb5 4
  have d0 : w5.cell? ⟨w2.heap.size, 0, none⟩ = some (.pointer (some ⟨pg, 0, none⟩)) := cell_at hg5 0 _ rfl
  have d1 : w5.cell? ⟨w2.heap.size, 1, none⟩ = some (.int .i64 0) := cell_at hg5 1 _ rfl
  have d4 : w5.cell? ⟨w2.heap.size, 4, none⟩ = some (.int .i64 0) := cell_at hg5 4 _ rfl
  have e1 := frozen_at hg5 1
  have e4 := frozen_at hg5 4
  have HP1 := Lib.hid hp1
  have HM5 := Lib.hid hm5
  have HK5 := Lib.hid hk5
  have HB5 := Lib.hid hb5
  have HG5 := Lib.hid hg5
  clear hp1 hm5 hk5 hb5 hg5 hb1 hgm
  go_wp2_with fail
  go_ret2
  have k6 := kept1 w5 b 4 (.int .i64 ((P2.clock : Int) + 1))
  have k7 := kept2 (w5.setCell ⟨b, 4, none⟩ (.int .i64 ((P2.clock : Int) + 1))) w2.heap.size 1 4 (.int .i64 1) (.int .i64 ((P2.clock : Int) + 1))
  have hs5 : w2.heap.size < w5.heap.size := by have := HK5.out.size; simp at this; omega
  have kp : Kept (fun x => x = b ∨ x = mb) w2 _ := ((k1.nob.trans' (HK5.out.mono fun x _ q => .inr q)).trans' (k6.mono fun x _ q => .inl q)).trans k7 (fun x hx q => absurd (show x = w2.heap.size from q) (by omega))
  have hgs : w2.heap.size < (((w5.setCell ⟨b, 4, none⟩ (.int .i64 ((P2.clock : Int) + 1))).setCell ⟨w2.heap.size, 1, none⟩ (.int .i64 1)).setCell ⟨w2.heap.size, 4, none⟩ (.int .i64 ((P2.clock : Int) + 1))).heap.size := by
    simp only [set_size]; exact hs5
  have hmap : (P2.add k ⟨w2.heap.size, pg, 1, false, 0, P2.clock + 1⟩).map = put P2.map k w2.heap.size := by
    show (insH _ _ _).map _ = _
    rw [insH_map, put, show del P2.map k = P2.map from List.filter_eq_self.2 fun p hp => by simpa using find_none.1 HN.out p hp]
    rfl
  refine ⟨P2, S2, pg, w2, w2.heap.size, HQ.out, rfl, ⟨?_, ?_, fun p hp => ?_, ?_, ?_, ?_, HP.out.bm, ?_⟩, rfl, hgs, kp⟩
  · exact (k7.block b (by rw [set_size]; have := HP.out.lt; omega) hbg).trans (heap_set w5 b 4 _ _ _ HB5.out)
  · rw [hmap]
    exact (HM5.out.kept k6 (fun e => HP.out.bm (show mb = b from e).symm)).kept k7 (fun e => by have := HP.out.map.lt; have : mb = w2.heap.size := e; omega)
  · rcases insH_mem.1 hp with rfl | hp
    · exact ⟨.inr rfl, heap_set _ _ 4 _ _ _ (heap_set _ _ 1 _ _ _ ((k6.block _ hs5 (fun e => hbg (show w2.heap.size = b from e).symm)).trans HG5.out))⟩
    · have hSp := (HP.out.held _ hp).1
      refine ⟨.inl hSp, (kp.block _ (HP.out.under _ hSp) ?_).trans (HP.out.held _ hp).2⟩
      rintro (e | e)
      · exact HP.out.Sb (e ▸ hSp)
      · exact HP.out.Sm (e ▸ hSp)
  · exact insH_once HP.out.once fun p hp e => by
      have := HP.out.under _ (HP.out.held _ hp).1
      have e : p.2.g = w2.heap.size := e
      omega
  · rintro (e | e)
    · exact HP.out.Sb e
    · exact hbg e
  · rintro (e | e)
    · exact HP.out.Sm e
    · have := HP.out.map.lt; omega
  · rintro x (e | e)
    · exact Nat.lt_of_lt_of_le (HP.out.under x e) kp.size
    · rw [e]; exact hgs
end Go.Proofs.YthppgchmamonnaaGreatDoor
