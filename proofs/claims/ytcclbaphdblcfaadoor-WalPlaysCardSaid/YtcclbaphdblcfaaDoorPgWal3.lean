/- The log: packed, parted. -/
import Derived.Test.YtcclbaphdblcfaaDoorPgWal2
namespace Go.Proofs.YtcclbaphdblcfaaDoor
open Go.RowKit

/-- rows as they are handed on: each slice of the list reads as its row; F: where they lie -/
def ReadRows (w : World) (vs : List Value) (rs : List (List Value)) (F : Nat → Prop) : Prop := vs.length = rs.length ∧ ∀ (i : Nat) (v : Value) (x : List Value), vs[i]? = some v → rs[i]? = some x → Reads w v x F
theorem ReadRows.kept {w w' : World} {vs : List Value} {rs : List (List Value)} {F G : Nat → Prop} (h : ReadRows w vs rs F) (hk : Kept G w w') (hd : ∀ k, F k → ¬ G k) : ReadRows w' vs rs F := ⟨h.1, fun i v x h1 h2 => (h.2 i v x h1 h2).kept hk hd⟩
theorem ReadRows.mono {w : World} {vs : List Value} {rs : List (List Value)} {F G : Nat → Prop} (h : ReadRows w vs rs F) (hg : ∀ k, k < w.heap.size → F k → G k) : ReadRows w vs rs G := ⟨h.1, fun i v x h1 h2 => (h.2 i v x h1 h2).mono hg⟩
theorem ReadRows.one {w : World} {vs : List Value} {rs : List (List Value)} {F : Nat → Prop} (h : ReadRows w vs rs F) : ∀ u ∈ vs, u.oneCell' = true := fun u hu => by
  obtain ⟨i, hi, rfl⟩ := List.getElem_of_mem hu
  obtain ⟨a, c, hv, -⟩ := (h.2 i _ _ (List.getElem?_eq_getElem hi) (List.getElem?_eq_getElem (by rw [← h.1]; exact hi))).shape
  rw [hv]; rfl
theorem ReadRows.nil (w : World) (F : Nat → Prop) : ReadRows w [] [] F := ⟨rfl, fun i v x h => by simp at h⟩
theorem ReadRows.append {w : World} {vs us : List Value} {rs qs : List (List Value)} {F : Nat → Prop} (h : ReadRows w vs rs F) (k : ReadRows w us qs F) : ReadRows w (vs ++ us) (rs ++ qs) F := by
  refine ⟨by rw [List.length_append, List.length_append, h.1, k.1], fun i v x h1 h2 => ?_⟩
  by_cases hi : i < vs.length
  · rw [List.getElem?_append_left hi] at h1
    rw [List.getElem?_append_left (by rw [← h.1]; exact hi)] at h2
    exact h.2 i v x h1 h2
  · rw [List.getElem?_append_right (by omega)] at h1
    rw [List.getElem?_append_right (by rw [← h.1]; omega), ← h.1] at h2
    exact k.2 _ v x h1 h2
theorem ReadRows.drop {w : World} {vs : List Value} {rs : List (List Value)} {F : Nat → Prop} (h : ReadRows w vs rs F) (n : Nat) : ReadRows w (vs.drop n) (rs.drop n) F :=
  ⟨by rw [List.length_drop, List.length_drop, h.1], fun i v x h1 h2 => by rw [List.getElem?_drop] at h1 h2; exact h.2 _ v x h1 h2⟩
theorem ReadRows.single {w : World} {v : Value} {x : List Value} {F : Nat → Prop} (h : Reads w v x F) : ReadRows w [v] [x] F :=
  ⟨rfl, fun i u y h1 h2 => by
    match i with
    | 0 => simp at h1 h2; subst h1 h2; exact h
    | i + 1 => simp at h1⟩

/-- inside 'packed' -/
def PackRel (w : World) (rs : List (List Value)) (k : Nat) (v : Value) (wr : World) : Prop :=
  ∃ b cap, v = .slice b (Wal.pack (rs.take k)).length cap ∧ Own wr 5 v (Wal.pack (rs.take k)) (From w.heap.size) ∧ Kept Nob w wr

set_option maxHeartbeats 1000000 in
theorem packed_any (w : World) (v : Value) (vs : List Value) (rs : List (List Value)) (F : Nat → Prop) (hv : Reads w v vs F) (hr : ReadRows w vs rs F) (hrs : ∀ r ∈ rs, Wal.Rec r) (hn : rs.length ≤ 1000000) (hF : ∀ j, F j → j < w.heap.size) :
    Calls Tryd.prog 51 #[v] w fun e w' => ∃ b cap, e = .returned (.slice b (Wal.pack rs).length cap) ∧ Own w' 5 (.slice b (Wal.pack rs).length cap) (Wal.pack rs) (From w.heap.size) ∧ Kept Nob w w' := by
  obtain ⟨a, cap, rfl, -⟩ := hv.shape
  have HV := Lib.hid hv
  have HR := Lib.hid hr
  have HRS := Lib.hid hrs
  have hvl : vs.length = rs.length := hr.1
  rw [hvl] at HV ⊢
  have HL := Lib.hid hvl
  have HW := Lib.hid (Wal.weight_le 1200 rs (fun r h => (hrs r h).1))
  clear hv hr hrs hvl
  have HDF : Hid (∀ j, F j → ¬ From w.heap.size j) := fun j hj h => by have := hF j hj; simp [From] at h; omega
  have HR0 : Hid (PackRel w rs 0 (.slice none 0 0) w) := ⟨none, 0, rfl, Own.nil _ _ _, Kept.refl _ _⟩
  go_enter Tryd.func51, Tryd.ntmps51
  go_wp2
  go_loopw [2, 7] (fun o i wr => ∃ k : Nat, k ≤ rs.length ∧ i = .int .i64 k ∧ PackRel w rs k o wr) (fun _ i _ => rs.length - (intOf i).toNat)
  case atStart => exact ⟨0, Nat.zero_le _, rfl, HR0.out⟩
  case round =>
    clear HR0
    obtain ⟨k, hk, rfl, b, c, rfl, ho, hkw⟩ := hrel
    have HO := Lib.hid ho
    have HK := Lib.hid hkw
    by_cases hlt : k < rs.length
    · obtain ⟨bv, ov, x, rfl, hx, hc, -⟩ := (HV.out.kept hkw (fun _ _ f => f)).cell (i := k) (by rw [HL.out]; exact hlt)
      have hrow := (HR.out.kept hkw (fun _ _ f => f)).2 k x rs[k] hx (List.getElem?_eq_getElem hlt)
      obtain ⟨xa, xc, rfl, -⟩ := hrow.shape
      have hrec := HRS.out rs[k] (List.getElem_mem hlt)
      have HRow := Lib.hid hrow
      have HRec := Lib.hid hrec
      have hlen := hrec.1
      have hwt : (Wal.pack (rs.take k)).length ≤ 1000000 * 1202 := by
        rw [Wal.pack_length]
        have h1 := Wal.weight_take_le rs k
        have h2 := HW.out
        have h3 : rs.length * 1202 ≤ 1000000 * 1202 := Nat.mul_le_mul_right _ hn
        omega
      have e1 : rs.take (k + 1) = rs.take k ++ [rs[k]] := List.take_succ_eq_append_getElem hlt
      have HE1 : Hid (Wal.pack (rs.take (k + 1)) = Wal.pack (rs.take k) ++ (Wal.head rs[k].length ++ rs[k])) := by
        show _ = _
        rw [e1, Wal.pack_snoc]
      clear ho hkw hx hrow hrec e1
      generalize rs[k] = r at *
      generalize Wal.pack (rs.take k) = P at *
      have ka := Kept.alloc Nob wr (.cells #[.int .u8 ((r.length : Int) % 256), .int .u8 ((r.length : Int) / 256)] 5)
      have HH : Hid (Reads (wr.alloc (.cells #[.int .u8 ((r.length : Int) % 256), .int .u8 ((r.length : Int) / 256)] 5)) (.slice (some ⟨wr.heap.size, 0, none⟩) 2 2) (Wal.head r.length) (fun _ => True)) := by
        refine .inr ⟨wr.heap.size, 0, 2, rfl, Nat.le_refl _, by simp, trivial, fun i x hi => ?_⟩
        match i with
        | 0 => simp [Wal.head] at hi; subst hi; simp
        | 1 => simp [Wal.head] at hi; subst hi; simp
        | i + 2 => simp [Wal.head] at hi
      have HOA := Lib.hid (HO.out.alloc (.cells #[.int .u8 ((r.length : Int) % 256), .int .u8 ((r.length : Int) / 256)] 5))
      have HRA := Lib.hid (HRow.out.alloc (.cells #[.int .u8 ((r.length : Int) % 256), .int .u8 ((r.length : Int) / 256)] 5))
      have HKA := Lib.hid (HK.out.then ka)
      have hh1 : Hid (∀ u ∈ Wal.head r.length, u.oneCell' = true) := fun u hu => by
        simp only [Wal.head, List.mem_cons, List.not_mem_nil, or_false] at hu
        rcases hu with rfl | rfl <;> rfl
      have hr1 : Hid (∀ u ∈ r, u.oneCell' = true) := fun u hu => (HRec.out.2 u hu).one
      clear ka
      go_wp2_with (first
        | (at_builtin; refine wpList_append_pg rfl _ _ 47 rfl tBytes (.slice b P.length c) (.slice (some ⟨wr.heap.size, 0, none⟩) 2 2) P (Wal.head r.length) _ _ rfl rfl HOA.out HH.out hh1.out (by simp only [Wal.head, List.length_cons, List.length_nil]; omega) ?_; intro b2 c2 w2 ho2 hk2 _; have ho2' : Own w2 5 (.slice b2 (P.length + 2) c2) (P ++ Wal.head r.length) (From w.heap.size) := (ho2.mono fun j _ hj => by rcases hj with hj | hj; exact HO.out.2 j hj; have := HKA.out.size; simp [From] at *; omega); have hk2' := HKA.out.from (Nat.le_refl _) (hk2.mono fun j _ hj => HO.out.2 j hj); have hra2 := HRA.out.kept hk2 (fun j hj h => HDF.out j hj (HO.out.2 j h)); have HO2 := Lib.hid ho2'; have HK2 := Lib.hid hk2'; have HR2 := Lib.hid hra2; clear ho2 hk2 ho2' hk2' hra2)
        | (at_builtin; refine wpList_append_pg rfl _ _ 47 rfl tBytes (.slice b2 (P.length + 2) c2) (.slice xa r.length xc) (P ++ Wal.head r.length) r _ _ rfl rfl HO2.out HR2.out hr1.out (by simp only [Wal.head, List.length_append, List.length_cons, List.length_nil]; omega) ?_; intro b3 c3 w3 ho3 hk3 _; have HO3 := Lib.hid ho3; have HK3 := Lib.hid hk3; clear ho3 hk3))
      have hN : PackRel w rs (k + 1) (.slice b3 (P.length + (Wal.head r.length).length + r.length) c3) w3 := by
        have e : P.length + (Wal.head r.length).length + r.length = (Wal.pack (rs.take (k + 1))).length := by rw [HE1.out]; simp only [List.length_append]; omega
        have ho := HO3.out.mono (G := From w.heap.size) (fun j _ hj => by
          rcases hj with hj | hj
          · exact HO2.out.2 j hj
          · have := HK2.out.size; simp [From]; omega)
        have ho' : Own w3 5 (.slice b3 (P.length + (Wal.head r.length).length + r.length) c3) (Wal.pack (rs.take (k + 1))) (From w.heap.size) := by
          rw [HE1.out, ← List.append_assoc]
          simpa [Wal.head, Nat.add_assoc] using ho
        rw [e] at ho' ⊢
        exact ⟨b3, c3, rfl, ho', HK2.out.from (Nat.le_refl _) (HK3.out.mono fun j _ hj => HO2.out.2 j hj)⟩
      have HN := Lib.hid hN
      clear hN
      go_roundw
      case rel => exact ⟨k + 1, by omega, by go_num, HN.out⟩
      case measure => simp [intOf]; omega
    · have hkl : k = rs.length := by omega
      have h1 := HO.out
      rw [hkl, List.take_length] at h1 ⊢
      have H1 := Lib.hid h1
      clear h1 HO ho hkw hlt hk
      go_wp2_with fail
      go_ret
      exact ⟨b, c, rfl, H1.out, HK.out⟩
end Go.Proofs.YtcclbaphdblcfaaDoor
