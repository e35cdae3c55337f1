/- The document's own digits: Text, Abs, Decimal. -/
import Derived.Test.YthjiobmglebmdaaGreatDoorPgRfDiv
import Derived.Test.YthjiobmglebmdaaGreatDoorPgScWrite
import Derived.Laws.IdiomStrings
namespace Go.Proofs.YthjiobmglebmdaaGreatDoor
open Go.RowKit
open Go.Proofs.YthjiobmglebmdaaGreatDoor.Dv Go.Proofs.YthjiobmglebmdaaGreatDoor.Geo Go.Proofs.YthjiobmglebmdaaGreatDoor.Txt

def lenV : Value → Nat
  | .slice _ n _ => n
  | _ => 0
theorem tBts : Plain Tryz.prog 101 5 (.int .u8 0) 1 := Plain.of Tryz.underlying101 (by kernel_rfl) rfl
def byteV (b : UInt8) : Value := .int .u8 (b.toNat : Int)
theorem dec_more (n : Nat) (h : ¬ n < 10) : Lib.decDigits n = Lib.decDigits (n / 10) ++ [UInt8.ofNat (48 + n % 10)] := by
  rw [Lib.decDigits, dif_neg h]
theorem dec_len : ∀ (k n : Nat), 0 < k → n < 10 ^ k → (Lib.decDigits n).length ≤ k
  | 0, _, h, _ => by omega
  | 1, n, _, h => by rw [Lib.decDigits_one (by simpa using h)]; simp
  | k + 2, n, _, h => by
    by_cases h10 : n < 10
    · rw [Lib.decDigits_one h10]; simp
    · rw [dec_more n h10, List.length_append]
      have := dec_len (k + 1) (n / 10) (by omega) (by rw [Nat.pow_succ] at h; omega)
      simp
      omega
theorem conv_text (w : World) (g4 n cap : Nat) (l : List UInt8) (hn : n = l.length) {F : Nat → Prop} (h : Own w 5 (.slice (some ⟨g4, 0, none⟩) n cap) (l.map byteV) F) :
    (convert 101 9 (.slice (some ⟨g4, 0, none⟩) n cap)).run Tryz.prog w = .ok (strV l) w := by
  subst hn
  refine run_convert_bytes_back w _ _ 5 _ _ _ (by kernel_rfl) (by kernel_rfl) (by kernel_rfl) fun j hj => ?_
  have := h.1.cells (g := g4) rfl j (byteV l[j]) (by simp [hj])
  exact this
theorem own_some {w : World} {e : TypeId} {b : Option Addr} {n cap : Nat} {xs : List Value} {F : Nat → Prop} (h : Own w e (.slice b n cap) xs F) (h0 : xs ≠ []) : ∃ g, b = some ⟨g, 0, none⟩ := by
  rcases h.shape with ⟨_, hx⟩ | ⟨g, cap', cur, hv, _⟩
  · exact absurd hx h0
  · simp at hv; exact ⟨g, hv.1⟩
theorem dec_pos (n : Nat) : 0 < (Lib.decDigits n).length := by
  by_cases h : n < 10
  · rw [Lib.decDigits_one h]; simp
  · rw [dec_more n h, List.length_append]; simp
theorem byteV_digit (r : Nat) (h : r < 10) : byteV (UInt8.ofNat (48 + r)) = .int .u8 ((48 + r : Nat) : Int) := by
  unfold byteV
  rw [show (UInt8.ofNat (48 + r)).toNat = 48 + r from by simp; omega]
theorem uV_val {n : Nat} (h : n < 340282366920938463463374607431768211456) : n / 18446744073709551616 < 18446744073709551616 ∧ n % 18446744073709551616 < 18446744073709551616 ∧ n / 18446744073709551616 * 18446744073709551616 + n % 18446744073709551616 = n := by omega
theorem own_digit {w : World} {e : TypeId} {v : Value} {r : Nat} {bs : List UInt8} {dg : UInt8} {F : Nat → Prop} (hdg : UInt8.ofNat (48 + r) = dg) (hr : r < 10) (h : Own w e v ([.int .u8 (48 + (r : Int))] ++ bs.map byteV) F) : Hid (Own w e v ((dg :: bs).map byteV) F) := Lib.hid (by
  rw [List.map_cons, ← hdg, byteV_digit r hr]
  simpa using h)
set_option maxRecDepth 100000 in
set_option maxHeartbeats 4000000 in
theorem ref_Text (w : World) (N : Nat) (hN : N < 340282366920938463463374607431768211456) :
    Calls Tryz.prog 59 #[uV N] w fun e w' => e = .returned (strV (Lib.decDigits N)) ∧ Kept Nob w w' := by
  have HD := fun (wx : World) (n : Nat) (hn : n < 340282366920938463463374607431768211456) => Lib.hid (show Calls Tryz.prog 86 #[.agg #[.int .u64 (n / 18446744073709551616 : Nat), .int .u64 (n % 18446744073709551616 : Nat)], .int .u64 10] wx fun e w' => e = .returned (.tuple #[.agg #[.int .u64 (n / 10 / 18446744073709551616 : Nat), .int .u64 (n / 10 % 18446744073709551616 : Nat)], .int .u64 (n % 10 : Nat)]) ∧ Kept Nob wx w' from by
    have := ref_Div wx (n / 18446744073709551616) (n % 18446744073709551616) 10 (uV_val hn).1 (uV_val hn).2.1 (by omega) (by omega)
    rw [(uV_val hn).2.2] at this
    exact this)
  have HLn := Lib.hid (dec_len 39 N (by omega) (by omega))
  have HNn := Lib.hid hN
  unfold uV
  obtain ⟨Nh, hNh⟩ : ∃ x, N / 18446744073709551616 = x := ⟨_, rfl⟩
  obtain ⟨Nl, hNl⟩ : ∃ x, N % 18446744073709551616 = x := ⟨_, rfl⟩
  have HNN := Lib.hid (And.intro hNh hNl)
  rw [hNh, hNl]
  clear hNh hNl
  go_enter Tryz.func59, Tryz.ntmps59
  go_wp2_with fail
  go_loopw [3] (fun o wr => ∃ (n : Nat) (bs : List UInt8), n ≤ N ∧ Lib.decDigits N = Lib.decDigits n ++ bs ∧ (∃ g c, o = .slice g bs.length c) ∧ Own wr 5 o (bs.map byteV) (From (w.heap.size + 1)) ∧ wr.heap[w.heap.size]? = some (.cells #[.int .u64 (n / 18446744073709551616 : Nat), .int .u64 (n % 18446744073709551616 : Nat)] 117 (0, 0)) ∧ Kept Nob w wr) (fun o _ => 100 - lenV o)
  case atStart => exact ⟨N, [], Nat.le_refl _, by simp, ⟨_, _, rfl⟩, Own.nil _ _ _, by rw [HNN.out.1, HNN.out.2]; exact Go.heap_alloc_new w _, Kept.alloc _ _ _⟩
  case round =>
    obtain ⟨n, bs, hn, hd, ⟨g, c, rfl⟩, hown, hb, hw⟩ := hrel
    have hnb : n < 340282366920938463463374607431768211456 := by have := HNn.out; omega
    have HDn := HD wr n hnb
    have c0 : wr.cell? ⟨w.heap.size, 0, none⟩ = some (.int .u64 (n / 18446744073709551616 : Nat)) := cell_at hb 0 _ rfl
    have c1 : wr.cell? ⟨w.heap.size, 1, none⟩ = some (.int .u64 (n % 18446744073709551616 : Nat)) := cell_at hb 1 _ rfl
    obtain ⟨nh, hnh⟩ : ∃ x, n / 18446744073709551616 = x := ⟨_, rfl⟩
    obtain ⟨nl, hnl⟩ : ∃ x, n % 18446744073709551616 = x := ⟨_, rfl⟩
    obtain ⟨qh, hqh⟩ : ∃ x, n / 10 / 18446744073709551616 = x := ⟨_, rfl⟩
    obtain ⟨ql, hql⟩ : ∃ x, n / 10 % 18446744073709551616 = x := ⟨_, rfl⟩
    obtain ⟨r, hr⟩ : ∃ x, n % 10 = x := ⟨_, rfl⟩
    have hr10 : r < 10 := by omega
    obtain ⟨dg, hdg⟩ : ∃ x, UInt8.ofNat (48 + r) = x := ⟨_, rfl⟩
    have HDi := Lib.hid hdg
    clear hdg
    rw [hnh] at c0
    rw [hnl] at c1
    rw [hnh, hnl, hqh, hql, hr] at HDn
    have HDg := Lib.hid hd
    have HOw := Lib.hid hown
    have HB := Lib.hid hb
    have HW := Lib.hid hw
    have HX := Lib.hid (show n / 10 / 18446744073709551616 = qh ∧ n / 10 % 18446744073709551616 = ql ∧ n % 10 = r from ⟨hqh, hql, hr⟩)
    clear hd hown hb hw hqh hql hr HD
    go_wp2_with fail
    refine HDn.out.mono ?_
    rintro e w1 ⟨rfl, hk1⟩
    have HW1 := Lib.hid (HW.out.then hk1)
    have HB1 := Lib.hid ((hk1.block w.heap.size (Array.getElem?_eq_some_iff.1 HB.out).1 (fun f => f.elim)).trans HB.out)
    have HOw1 := Lib.hid (HOw.out.kept hk1 (fun _ _ f => f))
    have hsz1 : w.heap.size < w1.heap.size := Nat.lt_of_lt_of_le (Array.getElem?_eq_some_iff.1 HB.out).1 hk1.size
    clear hk1 HOw HW HB c0 c1
    have HN2 : Hid (Own ((w1.alloc (.cells #[.int .u64 (qh : Nat), .int .u64 (ql : Nat)] 117)).alloc (.cells #[.int .u8 (48 + (r : Int))] 5)) 5 (.slice (some ⟨w1.heap.size + 1, 0, none⟩) 1 1) [.int .u8 (48 + (r : Int))] (From (w1.heap.size + 1))) := Lib.hid (by
      simpa using Own.new (w1.alloc (.cells #[.int .u64 (qh : Nat), .int .u64 (ql : Nat)] 117)) [.int .u8 (48 + (r : Int))] 5 1 rfl (by unfold maxLen; omega))
    have HR2 : Hid (Reads ((w1.alloc (.cells #[.int .u64 (qh : Nat), .int .u64 (ql : Nat)] 117)).alloc (.cells #[.int .u8 (48 + (r : Int))] 5)) (.slice g bs.length c) (bs.map byteV) (From (w.heap.size + 1))) := Lib.hid ((HOw1.out.alloc _).alloc _).reads
    have HBl : Hid (bs.length ≤ 38) := Lib.hid (by
      have h1 := HLn.out
      rw [HDg.out, List.length_append] at h1
      have h2 := dec_pos n
      omega)
    have h1c : ∀ u ∈ bs.map byteV, u.oneCell' = true := by
      intro u hu
      obtain ⟨b, -, rfl⟩ := List.mem_map.1 hu
      rfl
    have HKc : ∀ w4, Kept (fun k => (Value.slice (some ⟨w1.heap.size + 1, 0, none⟩) 1 1).ownBlock = some k) ((w1.alloc (.cells #[.int .u64 (qh : Nat), .int .u64 (ql : Nat)] 117)).alloc (.cells #[.int .u8 (48 + (r : Int))] 5)) w4 → Hid (w4.heap[w.heap.size]? = some (.cells #[.int .u64 (nh : Nat), .int .u64 (nl : Nat)] 117 (0, 0)) ∧ w4.heap[w1.heap.size]? = some (.cells #[.int .u64 (qh : Nat), .int .u64 (ql : Nat)] 117 (0, 0)) ∧ Kept Nob w w4 ∧ w1.heap.size + 2 ≤ w4.heap.size) := fun w4 hk => Lib.hid (by
      have hsz := hk.size
      refine ⟨?_, ?_, ?_, by simpa using hsz⟩
      · rw [hk.block w.heap.size (by simp; omega) (by simp [Value.ownBlock]; omega), Go.heap_alloc_old _ _ (by simp; omega), Go.heap_alloc_old _ _ (by omega)]
        rw [← hnh, ← hnl]; exact HB1.out
      · rw [hk.block w1.heap.size (by simp; omega) (by simp [Value.ownBlock]), Go.heap_alloc_old _ _ (by simp)]
        exact Go.heap_alloc_new w1 _
      · exact HW1.out.from (Nat.le_refl _) ((((Kept.alloc Nob w1 _).then (Kept.alloc Nob _ _)).nob (G := From w.heap.size)).trans hk (fun x _ hx => by simp [Value.ownBlock] at hx; simp [From]; omega)))
    clear HB1
    by_cases h10 : n < 10
    · have hqz : qh = 0 ∧ ql = 0 := by
        have := HX.out
        rw [show n / 10 = 0 from by omega] at this
        omega
      obtain ⟨rfl, rfl⟩ := hqz
      go_wp2_with (at_builtin; refine wpList_append_pg rfl _ _ 101 rfl tBts (.slice (some ⟨w1.heap.size + 1, 0, none⟩) 1 1) (.slice g bs.length c) [.int .u8 (48 + (r : Int))] (bs.map byteV) (From (w1.heap.size + 1)) (From (w.heap.size + 1)) rfl rfl HN2.out HR2.out h1c (by have := HBl.out; simp; omega) ?_; intro b4 cap4 w4 ho4 hk4 _; obtain ⟨g4, rfl⟩ := own_some ho4 (by simp); simp only [List.length_cons, List.length_nil, List.length_map] at ho4 ⊢; have HO4 := own_digit HDi.out hr10 (ho4.mono (G := From (w.heap.size + 1)) (fun x _ hx => by simp [Value.ownBlock] at hx; simp [From]; omega)); have HK4 := HKc w4 hk4; clear ho4 hk4; have c0 : w4.cell? ⟨w.heap.size, 0, none⟩ = some (.int .u64 (nh : Nat)) := cell_at HK4.out.1 0 _ rfl; have c1 : w4.cell? ⟨w.heap.size, 1, none⟩ = some (.int .u64 (nl : Nat)) := cell_at HK4.out.1 1 _ rfl; have z0 := frozen_of_row w4 _ 0 _ _ HK4.out.1; have z1 := frozen_of_row w4 _ 1 _ _ HK4.out.1; have q0 : w4.cell? ⟨w1.heap.size, 0, none⟩ = some (.int .u64 (0 : Nat)) := cell_at HK4.out.2.1 0 _ rfl; have q1 : w4.cell? ⟨w1.heap.size, 1, none⟩ = some (.int .u64 (0 : Nat)) := cell_at HK4.out.2.1 1 _ rfl)
      have hk5 : Kept (Just w.heap.size) w4 ((w4.setCell ⟨w.heap.size, 0, none⟩ (.int .u64 0)).setCell ⟨w.heap.size, 1, none⟩ (.int .u64 0)) := (Kept.setCell (F := Just w.heap.size) w4 ⟨w.heap.size, 0, none⟩ _ rfl).trans' (Kept.setCell (F := Just w.heap.size) _ ⟨w.heap.size, 1, none⟩ _ rfl)
      rw [conv_text _ g4 (1 + bs.length) cap4 (dg :: bs) (by simp; omega) (HO4.out.kept hk5 (fun x hx hj => by simp [From] at hx; simp [Just] at hj; omega))]
      go_wp2_with fail
      go_ret
      refine ⟨?_, HK4.out.2.2.1.from (Nat.le_refl _) (hk5.mono fun x _ hx => by simp [Just] at hx; simp [From]; omega)⟩
      rw [HDg.out, Lib.decDigits_one h10, show n = r from by have := HX.out; omega, HDi.out]
      rfl
    · have hqn : ¬ (qh = 0 ∧ ql = 0) := by
        have := HX.out
        omega
      go_wp2_with (at_builtin; refine wpList_append_pg rfl _ _ 101 rfl tBts (.slice (some ⟨w1.heap.size + 1, 0, none⟩) 1 1) (.slice g bs.length c) [.int .u8 (48 + (r : Int))] (bs.map byteV) (From (w1.heap.size + 1)) (From (w.heap.size + 1)) rfl rfl HN2.out HR2.out h1c (by have := HBl.out; simp; omega) ?_; intro b4 cap4 w4 ho4 hk4 _; obtain ⟨g4, rfl⟩ := own_some ho4 (by simp); simp only [List.length_cons, List.length_nil, List.length_map] at ho4 ⊢; have HO4 := own_digit HDi.out hr10 (ho4.mono (G := From (w.heap.size + 1)) (fun x _ hx => by simp [Value.ownBlock] at hx; simp [From]; omega)); have HK4 := HKc w4 hk4; clear ho4 hk4; have c0 : w4.cell? ⟨w.heap.size, 0, none⟩ = some (.int .u64 (nh : Nat)) := cell_at HK4.out.1 0 _ rfl; have c1 : w4.cell? ⟨w.heap.size, 1, none⟩ = some (.int .u64 (nl : Nat)) := cell_at HK4.out.1 1 _ rfl; have z0 := frozen_of_row w4 _ 0 _ _ HK4.out.1; have z1 := frozen_of_row w4 _ 1 _ _ HK4.out.1; have q0 : w4.cell? ⟨w1.heap.size, 0, none⟩ = some (.int .u64 (qh : Nat)) := cell_at HK4.out.2.1 0 _ rfl; have q1 : w4.cell? ⟨w1.heap.size, 1, none⟩ = some (.int .u64 (ql : Nat)) := cell_at HK4.out.2.1 1 _ rfl)
      all_goals go_roundw
      all_goals first
        | (refine ⟨n / 10, dg :: bs, by omega, ?_, ⟨_, _, by rw [List.length_cons, Nat.add_comm]⟩, ?_, ?_, ?_⟩
           · rw [HDg.out, dec_more n h10, show n % 10 = r from HX.out.2.2, HDi.out]; simp
           · exact HO4.out.kept ((Kept.setCell (F := Just w.heap.size) w4 ⟨w.heap.size, 0, none⟩ _ rfl).trans' (Kept.setCell (F := Just w.heap.size) _ ⟨w.heap.size, 1, none⟩ _ rfl)) (fun x hx hj => by simp [From] at hx; simp [Just] at hj; omega)
           · rw [Go.heap_setCell_same _ _ _ _ _ _ (Go.heap_setCell_same _ _ _ _ _ _ HK4.out.1), HX.out.1, HX.out.2.1]; first | (simp; done) | (simp; omega)
           · exact HK4.out.2.2.1.from (Nat.le_refl _) (((Kept.setCell (F := Just w.heap.size) w4 ⟨w.heap.size, 0, none⟩ _ rfl).trans' (Kept.setCell (F := Just w.heap.size) _ ⟨w.heap.size, 1, none⟩ _ rfl)).mono fun x _ hx => by simp [Just] at hx; simp [From]; omega))
        | (have := HBl.out; simp [lenV]; omega)
end Go.Proofs.YthjiobmglebmdaaGreatDoor
