/- awake of the Script laws; Parse and ParseQuery of a text that is one's, and of one that is none's. -/
import Derived.Test.YthjiobmglebmdaaGreatDoorPgScAns
import Derived.Test.YthjiobmglebmdaaGreatDoorPgScParseQ
import Derived.Test.YthjiobmglebmdaaGreatDoorPgRfSame
namespace Go.Proofs.YthjiobmglebmdaaGreatDoor
open Go.RowKit
open Go.Proofs.YthjiobmglebmdaaGreatDoor.Geo Go.Proofs.YthjiobmglebmdaaGreatDoor.Txt

theorem parse_yes (w : World) (ob : Ob) (ho : ObOk ob) (hE : Env w) :
    Calls Tryz.prog 17 #[strV (obText ob)] w fun e w' => ∃ u, e = .returned (.tuple #[.agg #[.int .i64 ob.kind, u], .nilIface]) ∧ PtsAt w' u ob.pts (From w.heap.size) ∧ Kept Nob w w' := by
  refine (script_Parse w (obText ob) (Nat.le_trans (obText_len ob) (by omega)) hE).mono ?_
  rintro e w' (⟨o2, u, h2, he, rfl, hp, hk⟩ | ⟨hn, -⟩)
  · obtain rfl := obText_inj h2 ho he
    exact ⟨u, rfl, hp, hk⟩
  · exact absurd rfl (hn ob ho)
theorem parse_no (w : World) (s : List UInt8) (hs : s.length ≤ 400000) (hn : ∀ ob, ObOk ob → obText ob ≠ s) (hE : Env w) :
    Calls Tryz.prog 17 #[strV s] w fun e w' => ∃ u, e = .returned (.tuple #[.agg #[.int .i64 0, .slice none 0 0], u]) ∧ FaultAt w' u ⟨#[115, 99, 114, 105, 112, 116]⟩ 0 10 (From w.heap.size) ∧ Kept Nob w w' := by
  refine (script_Parse w s hs hE).mono ?_
  rintro e w' (⟨o2, u, h2, he, -⟩ | ⟨-, h⟩)
  · exact absurd he (hn o2 h2)
  · exact h
theorem qrText_len (q : Qr) : (qrText q).length ≤ 5000 := by
  by_cases h : QrOk q
  · rw [qrText_is h, qrWords_eq]
    have h1 := qrPts_len h
    exact words_len (by
      unfold qrWord
      by_cases h1 : q.kind = 1
      · rw [if_pos h1]; decide
      · rw [if_neg h1]
        by_cases h2 : q.kind = 2
        · rw [if_pos h2]; decide
        · rw [if_neg h2]
          by_cases h3 : q.kind = 3
          · rw [if_pos h3]; decide
          · rw [if_neg h3]; decide) h1.2 (qrPts_ok h)
  · rw [qrText_no h]; simp
theorem parseQ_yes (w : World) (q : Qr) (ho : QrOk q) (hE : Env w) :
    Calls Tryz.prog 20 #[strV (qrText q)] w fun e w' => ∃ u, e = .returned (.tuple #[qrVal (qrOf q.kind (qrPts q)) u, .nilIface]) ∧ PtsAt w' u (qrOf q.kind (qrPts q)).ring (From w.heap.size) ∧ Kept Nob w w' := by
  refine (script_ParseQuery w (qrText q) (Nat.le_trans (qrText_len q) (by omega)) hE).mono ?_
  rintro e w' (⟨q2, u, h2, he, rfl, hp, hk⟩ | ⟨hn, -⟩)
  · obtain ⟨e1, e2⟩ := qrText_inj h2 ho he
    rw [e1, e2] at hp ⊢
    exact ⟨u, rfl, hp, hk⟩
  · exact absurd rfl (hn q ho)

def oBox : Ob := ⟨3, [(0, 0), (2, 3)]⟩
theorem oBox_ok : ObOk oBox := .inr (.inr (.inl ⟨rfl, (0, 0), (2, 3), rfl, by decide, by decide, by decide, by decide⟩))
theorem itoa_digit (n : Nat) (h : n < 10) : Lib.itoa (n : Int) = [UInt8.ofNat (48 + n)] := by
  unfold Lib.itoa
  rw [if_neg (by omega)]
  simp only [Int.toNat_natCast]
  exact Lib.decDigits_one h
theorem oBox_text : obText oBox = [98, 111, 120, 32, 48, 44, 48, 32, 50, 44, 51] := by
  rw [obText_words oBox_ok]
  have h0 := itoa_digit 0 (by omega)
  have h2 := itoa_digit 2 (by omega)
  have h3 := itoa_digit 3 (by omega)
  show Lib.join (obWord 3 :: obTail ⟨3, [(0, 0), (2, 3)]⟩) [32] = _
  simp only [obWord, obTail, ptTxt, List.map_cons, List.map_nil]
  rw [show (0 : Int) = ((0 : Nat) : Int) from rfl, show (2 : Int) = ((2 : Nat) : Int) from rfl, h0, h2] at *
  rw [show (3 : Int) = ((3 : Nat) : Int) from rfl, h3]
  simp [wBox, Lib.join_cons, Lib.joinTail]
theorem ans_six (T : Int → Int → Int → List UInt8) (ob : Ob) (has : Bool) : ansText T 6 [[100, 98]] [] [] ob has = [101, 114, 114, 111, 114, 32, 54, 58, 32, 100, 98] := by
  unfold ansText
  rw [if_neg (by decide), if_neg (by simp), show (6 : Int) = ((6 : Nat) : Int) from rfl, itoa_digit 6 (by omega)]
  simp [wError, Lib.join_one]
/-- script.Answer of an answer without ids and nears -/
theorem answer_few (w : World) (c k : Int) (vo vi vn vp : Value) (ops : List (List UInt8)) (l : List Pt) (has : Bool) (F1 F4 : Nat → Prop)
    (h1 : Reads w vo (ops.map strV) F1) (h2 : vi = .slice none 0 0) (h3 : vn = .slice none 0 0) (h4 : PtsAt w vp l F4) (hE : Env w)
    (b1 : ops.length ≤ 1000) (b1' : ∀ x ∈ ops, x.length ≤ 1000) (b4 : l.length < 1000000000) (hc : InI64 c) :
    Calls Tryz.prog 9 #[.agg #[.int .i64 c, vo, vi, vn, .int .i64 k, vp, .bool has]] w fun e w' => e = .returned (strV (ansText (fun _ _ _ => []) c ops [] [] ⟨k, l⟩ has)) ∧ Kept Nob w w' := by
  subst h2 h3
  exact script_Answer w c k vo _ _ vp ops [] [] l has F1 Nob Nob F4 (fun _ _ _ => []) h1 (.inl ⟨rfl, none, 0, rfl, fun _ => rfl⟩) ⟨rfl, .inl ⟨rfl, none, 0, rfl, fun _ => rfl⟩⟩ h4 hE b1 b1' (by simp) (by simp) b4 hc (by simp) (by simp) (by simp) (by simp)
set_option maxRecDepth 100000 in
set_option maxHeartbeats 4000000 in
theorem sc_awake (w : World) (hE : Env w) : Calls Tryz.prog 8 #[] w (RetTrue w) := by
  have HP := Lib.hid (parse_yes w oBox oBox_ok hE)
  have HE := Lib.hid hE
  have HO := fun (wx : World) (v : Value) (F : Nat → Prop) (hp : PtsAt wx v [(0, 0), (2, 3)] F) (kx : Kept Nob w wx) => Lib.hid (script_Object wx 3 v [(0, 0), (2, 3)] F hp (by simp) (hE.kept kx))
  have ht := oBox_text
  have ht2 := oBox_text
  unfold oBox at ht
  rw [ht2] at HP
  simp only [ht] at HO
  have HA := fun (wx : World) (kx : Kept Nob w wx) (g : Nat) (hg : wx.heap.size = g) => Lib.hid (show Calls Tryz.prog 9 #[.agg #[.int .i64 6, .slice (some ⟨g, 0, none⟩) 1 1, .slice none 0 0, .slice none 0 0, .int .i64 0, .slice none 0 0, .bool false]] (wx.alloc (.cells #[.string ⟨#[100, 98]⟩] 9)) fun e w' => e = .returned (.string ⟨#[101, 114, 114, 111, 114, 32, 54, 58, 32, 100, 98]⟩) ∧ Kept Nob (wx.alloc (.cells #[.string ⟨#[100, 98]⟩] 9)) w' from by
    subst hg
    have := answer_few (wx.alloc (.cells #[.string ⟨#[100, 98]⟩] 9)) 6 0 (.slice (some ⟨wx.heap.size, 0, none⟩) 1 1) _ _ (.slice none 0 0) [[100, 98]] [] false (From wx.heap.size) Nob (by
      have := (Own.new wx [.string ⟨#[100, 98]⟩] 9 1 rfl (by unfold maxLen; omega)).reads
      simpa [strV] using this) rfl rfl (PtsAt.nils _ _) (hE.kept (kx.then (Kept.alloc _ _ _))) (by simp) (by simp) (by simp) ⟨by omega, by omega⟩
    rw [ans_six] at this
    exact this)
  clear hE ht ht2
  unfold oBox strV at HP
  unfold strV at HO
  simp only at HP
  go_enter Tryz.func8, Tryz.ntmps8
  go_wp2_with fail
  refine HP.out.mono ?_
  rintro e w1 ⟨u, rfl, hp, hk1⟩
  obtain ⟨ua, uc, rfl⟩ := hp.shape
  have HPt := Lib.hid hp
  have HK := Lib.hid hk1
  clear hp hk1
  simp only [List.length_cons, List.length_nil, Nat.zero_add, Nat.reduceAdd] at *
  go_wp2_with fail
  refine (HO _ _ _ (HPt.out.nob (Kept.alloc Nob w1 _)) (HK.out.then (Kept.alloc Nob _ _))).out.mono ?_
  rintro e w2 ⟨rfl, hk2⟩
  have HK2 := Lib.hid ((HK.out.then (Kept.alloc Nob w1 _)).then hk2)
  clear hk2
  go_wp2_with fail
  refine (HA _ HK2.out _ rfl).out.mono ?_
  rintro e w3 ⟨rfl, hk3⟩
  have HK3 := Lib.hid ((HK2.out.then (Kept.alloc Nob w2 _)).then hk3)
  clear hk3
  go_wp2_with fail
  go_ret
  exact ⟨rfl, HK3.out⟩
end Go.Proofs.YthjiobmglebmdaaGreatDoor
