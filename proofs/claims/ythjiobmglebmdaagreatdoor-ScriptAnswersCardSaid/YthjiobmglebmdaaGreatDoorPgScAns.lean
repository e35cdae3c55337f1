/- script.Answer: an answer's text. Printed by gen_ans.py. -/
import Derived.Test.YthjiobmglebmdaaGreatDoorPgScParse
namespace Go.Proofs.YthjiobmglebmdaaGreatDoor
open Go.RowKit
open Go.Proofs.YthjiobmglebmdaaGreatDoor.Geo Go.Proofs.YthjiobmglebmdaaGreatDoor.Txt

/-- an id and how far it is -/
structure Nr where
  id : Int
  hi : Int
  lo : Int
  den : Int
def nrCells : List Nr → List Value
  | [] => []
  | n :: r => .int .i64 n.id :: .int .u64 n.hi :: .int .u64 n.lo :: .int .u64 n.den :: nrCells r
theorem nrCells_length : ∀ l : List Nr, (nrCells l).length = l.length * 4
  | [] => rfl
  | n :: r => by simp [nrCells, nrCells_length r]; omega
theorem nrCells_at : ∀ (l : List Nr) (i : Nat) (n : Nr), l[i]? = some n → (nrCells l)[i * 4]? = some (.int .i64 n.id) ∧ (nrCells l)[i * 4 + 1]? = some (.int .u64 n.hi) ∧ (nrCells l)[i * 4 + 2]? = some (.int .u64 n.lo) ∧ (nrCells l)[i * 4 + 3]? = some (.int .u64 n.den)
  | m :: r, 0, n, h => by simp at h; subst h; simp [nrCells]
  | m :: r, i + 1, n, h => by
    have := nrCells_at r i n (by simpa using h)
    rw [show (i + 1) * 4 = i * 4 + 1 + 1 + 1 + 1 from by omega]
    simpa [nrCells] using this
def nrTxt (T : Int → Int → Int → List UInt8) (n : Nr) : List UInt8 := Lib.itoa n.id ++ 64 :: T n.hi n.lo n.den
def wError : List UInt8 := [101, 114, 114, 111, 114, 32]
def wOk : List UInt8 := [111, 107]
/-- the words of an answer that is none's error -/
noncomputable def ansWords (T : Int → Int → Int → List UInt8) (ids : List Int) (ns : List Nr) (ob : Ob) (has : Bool) : List (List UInt8) :=
  ((wOk :: ids.map Lib.itoa) ++ ns.map (nrTxt T)) ++ (if has = true then [(91 :: obText ob) ++ [93]] else [])
/-- an answer's text -/
noncomputable def ansText (T : Int → Int → Int → List UInt8) (c : Int) (ops : List (List UInt8)) (ids : List Int) (ns : List Nr) (ob : Ob) (has : Bool) : List UInt8 :=
  if c = 0 then Lib.join (ansWords T ids ns ob has) [32]
  else if ops = [] then wError ++ Lib.itoa c else (wError ++ Lib.itoa c) ++ ([58, 32] ++ Lib.join ops [32])
theorem obText_len (o : Ob) : (obText o).length ≤ 5000 := by
  by_cases h : ObOk o
  · rw [obText_words h]
    have h1 := h.len
    have := join_len (B := 43) (l := obWord o.kind :: obTail o) (fun x hx => by
      simp only [List.mem_cons] at hx
      rcases hx with rfl | hx
      · unfold obWord
        by_cases h1 : o.kind = 1
        · rw [if_pos h1]; decide
        · rw [if_neg h1]
          by_cases h2 : o.kind = 2
          · rw [if_pos h2]; decide
          · rw [if_neg h2]
            by_cases h3 : o.kind = 3
            · rw [if_pos h3]; decide
            · rw [if_neg h3]; decide
      · by_cases h2 : o.kind = 2
        · have ho := h.pts_ok
          rcases h with ⟨h, _⟩ | ⟨_, p, hp, _⟩ | ⟨h, _⟩ | ⟨h, _⟩
          · omega
          · unfold obTail at hx
            rw [if_pos h2, hp] at hx
            have hok := ok_range (ho p (by rw [hp]; simp))
            simp at hx
            rcases hx with rfl | rfl
            · have := Lib.itoa_length_le p.1 hok.1.1 hok.1.2; omega
            · have := Lib.itoa_length_le p.2 hok.2.1 hok.2.2; omega
          · omega
          · omega
        · rw [obTail_else h2, List.mem_map] at hx
          obtain ⟨p, hp, rfl⟩ := hx
          exact ptTxt_len (h.pts_ok p hp))
    have h2 : (obTail o).length ≤ 65 := by
      by_cases h2 : o.kind = 2
      · obtain ⟨m, n, e⟩ := obTail_two h h2
        rw [e]; simp
      · rw [obTail_else h2]; simp; omega
    simp only [List.length_cons] at this
    omega
  · rw [obText_no h]; simp
theorem ansWords_len {T : Int → Int → Int → List UInt8} {ids : List Int} {ns : List Nr} {ob : Ob} {has : Bool} (h1 : ids.length ≤ 1000) (h2 : ns.length ≤ 1000) (hi : ∀ n ∈ ids, InI64 n) (hn : ∀ n ∈ ns, InI64 n.id) (hT : ∀ n ∈ ns, (T n.hi n.lo n.den).length ≤ 1000) :
    (Lib.join (ansWords T ids ns ob has) [32]).length ≤ 140737488355328 ∧ (ansWords T ids ns ob has).length ≤ 1000000000 := by
  have := join_len (B := 6000) (l := ansWords T ids ns ob has) (fun x hx => by
    unfold ansWords at hx
    simp only [List.mem_append, List.mem_cons, List.mem_map] at hx
    rcases hx with ((rfl | ⟨n, hn', rfl⟩) | ⟨n, hn', rfl⟩) | hx
    · decide
    · have := Lib.itoa_length_le n (hi n hn').1 (hi n hn').2; omega
    · have := Lib.itoa_length_le n.id (hn n hn').1 (hn n hn').2
      have := hT n hn'
      unfold nrTxt
      simp only [List.length_append, List.length_cons]
      omega
    · cases has with
      | false => simp at hx
      | true =>
        simp at hx
        subst hx
        have := obText_len ob
        simp
        omega)
  have hl : (ansWords T ids ns ob has).length ≤ 2002 := by
    unfold ansWords
    cases has <;> simp <;> omega
  omega

theorem nr_at {w : World} {a : Option Addr} {n c : Nat} {l : List Nr} {F : Nat → Prop} (h : ReadsK 4 w (.slice a n c) l.length (nrCells l) F) {i : Nat} {p : Nr} (hp : l[i]? = some p) :
    ∃ b o, a = some ⟨b, o, none⟩ ∧ b < w.heap.size ∧ w.cell? ⟨b, o + i * 4, none⟩ = some (.int .i64 p.id) ∧ w.cell? ⟨b, o + i * 4 + 1, none⟩ = some (.int .u64 p.hi) ∧ w.cell? ⟨b, o + i * 4 + 2, none⟩ = some (.int .u64 p.lo) ∧ w.cell? ⟨b, o + i * 4 + 3, none⟩ = some (.int .u64 p.den) := by
  have hi : i < l.length := (List.getElem?_eq_some_iff.1 hp).1
  obtain ⟨b, o, h1, h2, h3, h4, h5⟩ := ReadsK.at h hi
  obtain ⟨x0, a0, c0⟩ := h5 0 (by omega)
  obtain ⟨x1, a1, c1⟩ := h5 1 (by omega)
  obtain ⟨x2, a2, c2⟩ := h5 2 (by omega)
  obtain ⟨x3, a3, c3⟩ := h5 3 (by omega)
  obtain ⟨e0, e1, e2, e3⟩ := nrCells_at l i p hp
  rw [Nat.add_zero] at a0 c0
  rw [e0] at a0
  rw [e1] at a1
  rw [e2] at a2
  rw [e3] at a3
  cases a0; cases a1; cases a2; cases a3
  exact ⟨b, o, h1, h3, c0, by rw [Nat.add_assoc]; exact c1, by rw [Nat.add_assoc]; exact c2, by rw [Nat.add_assoc]; exact c3⟩
set_option maxRecDepth 100000 in
set_option maxHeartbeats 8000000 in
theorem script_Answer (w : World) (c k : Int) (vo vi vn vp : Value) (ops : List (List UInt8)) (ids : List Int) (ns : List Nr) (l : List Pt) (has : Bool) (F1 F2 F3 F4 : Nat → Prop) (T : Int → Int → Int → List UInt8)
    (h1 : Reads w vo (ops.map strV) F1) (h2 : Reads w vi (ids.map (.int .i64)) F2) (h3 : ReadsK 4 w vn ns.length (nrCells ns) F3) (h4 : PtsAt w vp l F4) (hE : Env w)
    (b1 : ops.length ≤ 1000) (b1' : ∀ x ∈ ops, x.length ≤ 1000) (b2 : ids.length ≤ 1000) (b3 : ns.length ≤ 1000) (b4 : l.length < 1000000000) (hc : InI64 c) (hi : ∀ n ∈ ids, InI64 n) (hn : ∀ n ∈ ns, InI64 n.id) (hT : ∀ n ∈ ns, (T n.hi n.lo n.den).length ≤ 1000)
    (HT : ∀ n ∈ ns, ∀ wx, Kept Nob w wx → Calls Tryz.prog 29 #[.agg #[.int .u64 n.hi, .int .u64 n.lo, .int .u64 n.den]] wx fun e w' => e = .returned (strV (T n.hi n.lo n.den)) ∧ Kept Nob wx w') :
    Calls Tryz.prog 9 #[.agg #[.int .i64 c, vo, vi, vn, .int .i64 k, vp, .bool has]] w fun e w' => e = .returned (strV (ansText T c ops ids ns ⟨k, l⟩ has)) ∧ Kept Nob w w' := by
  obtain ⟨oa, oc, rfl, -⟩ := h1.shape
  obtain ⟨ia, ic, rfl, -⟩ := h2.shape
  obtain ⟨na, nc, rfl, -⟩ := h3.shape
  obtain ⟨pa, pc, rfl⟩ := h4.shape
  have HE := Lib.hid hE
  have e1 : (ops.map strV).length = ops.length := by simp
  have e2 : (ids.map (Value.int .i64)).length = ids.length := by simp
  rw [e1, e2]
  rw [e1] at h1
  rw [e2] at h2
  clear e1 e2
  have H1 := Lib.hid h1
  have H2 := Lib.hid h2
  have H3 := Lib.hid h3
  have H4 := Lib.hid h4
  have HTt := Lib.hid HT
  have HIi := Lib.hid hi
  have HNn := Lib.hid hn
  have HLen := Lib.hid (ansWords_len (ob := ⟨k, l⟩) (has := has) b2 b3 hi hn hT)
  have HTl := Lib.hid hT
  have HOb := fun (wx : World) (kx : Kept Nob w wx) => Lib.hid (script_Object wx k _ l F4 (h4.nob kx) b4 (hE.kept kx))
  clear h1 h2 h3 h4 HT hi hn hE hT
  by_cases hc0 : c = 0
  case neg =>
    have hbc : (c != 0) = true := by simpa using hc0
    have HI := fun (wx : World) (kx : Kept Nob w wx) => Lib.hid (str_itoa wx c hc.1 hc.2 (HE.out.kept kx))
    obtain ⟨ct, hct⟩ : ∃ u, (⟨(Lib.itoa c).toArray⟩ : ByteArray) = u := ⟨_, rfl⟩
    have sct : ct.size ≤ 21 := by rw [← hct]; show (Lib.itoa c).toArray.size ≤ 21; simpa using Lib.itoa_length_le c hc.1 hc.2
    simp only [strV, hct] at HI
    have HCt := Lib.hid hct
    clear hct
    by_cases ho : ops = []
    · subst ho
      have HR : Hid (strV (ansText T c [] ids ns ⟨k, l⟩ has) = .string (⟨#[101, 114, 114, 111, 114, 32]⟩ ++ ct)) := Lib.hid (by
        unfold ansText
        rw [if_neg hc0, if_pos rfl]
        have := strV_append wError (Lib.itoa c)
        rw [HCt.out] at this
        unfold strV
        rw [← this]
        rfl)
      simp only [List.length_nil] at *
      clear hc0
      generalize ansText T c [] ids ns ⟨k, l⟩ has = res at *
      go_enter Tryz.func9, Tryz.ntmps9
      go_wp2_with fail
      refine (HI _ (Kept.alloc _ _ _)).out.mono ?_
      rintro e w1 ⟨rfl, hk1⟩
      have BB := Lib.hid (new1 hk1)
      have d1 := cell_at BB.out 1 _ rfl
      have HK := Lib.hid ((Kept.alloc Nob w _).then hk1)
      clear hk1
      go_wp2_with fail
      go_ret
      exact ⟨by rw [HR.out]; rfl, HK.out⟩
    · have hlo : 0 < ops.length := List.length_pos_iff.2 ho
      have HJl : Hid ((Lib.join ops [32]).length ≤ 1100000) := Lib.hid (by
        have := join_len b1'
        have h2 : (1000 + 1) * ops.length ≤ (1000 + 1) * 1000 := Nat.mul_le_mul_left _ b1
        omega)
      have HJ := fun (wx : World) (kx : Kept Nob w wx) => Lib.hid (str_join wx _ ops F1 (H1.out.kept kx (fun _ _ f => f)) (by omega) (Nat.le_trans HJl.out (by omega)))
      obtain ⟨jt, hjt⟩ : ∃ u, (⟨(Lib.join ops [32]).toArray⟩ : ByteArray) = u := ⟨_, rfl⟩
      have sjt : jt.size ≤ 1100000 := by rw [← hjt]; show (Lib.join ops [32]).toArray.size ≤ _; simpa using HJl.out
      simp only [strV, hjt] at HJ
      have HR : Hid (strV (ansText T c ops ids ns ⟨k, l⟩ has) = .string ((⟨#[101, 114, 114, 111, 114, 32]⟩ ++ ct) ++ (⟨#[58, 32]⟩ ++ jt))) := Lib.hid (by
        unfold ansText
        rw [if_neg hc0, if_neg ho]
        have e1 := strV_append wError (Lib.itoa c)
        have e2 := strV_append [58, 32] (Lib.join ops [32])
        have e3 := strV_append (wError ++ Lib.itoa c) ([58, 32] ++ Lib.join ops [32])
        rw [HCt.out] at e1
        rw [hjt] at e2
        rw [← e1, ← e2] at e3
        unfold strV
        rw [← e3]
        rfl)
      clear hjt hc0 ho
      generalize ansText T c ops ids ns ⟨k, l⟩ has = res at *
      have hlo' : (0 : Int) < (ops.length : Int) := by omega
      go_enter Tryz.func9, Tryz.ntmps9
      go_wp2_with fail
      refine (HI _ (Kept.alloc _ _ _)).out.mono ?_
      rintro e w1 ⟨rfl, hk1⟩
      have BB := Lib.hid (new1 hk1)
      have d1 := cell_at BB.out 1 _ rfl
      have HK := Lib.hid ((Kept.alloc Nob w _).then hk1)
      clear hk1
      go_wp2_with fail
      refine (HJ _ HK.out).out.mono ?_
      rintro e w2 ⟨rfl, hk2⟩
      have HK2 := Lib.hid (HK.out.then hk2)
      clear hk2
      go_wp2_with fail
      go_ret
      exact ⟨by rw [HR.out]; rfl, HK2.out⟩
  case pos =>
    subst hc0
    have HR : Hid (ansText T 0 ops ids ns ⟨k, l⟩ has = Lib.join (ansWords T ids ns ⟨k, l⟩ has) [32]) := Lib.hid (by unfold ansText; rw [if_pos rfl])
    generalize ansText T 0 ops ids ns ⟨k, l⟩ has = res at *
    go_enter Tryz.func9, Tryz.ntmps9
    go_wp2_with fail
    have HWB : Hid (Kept Nob w (w.alloc (.cells #[.int .i64 0, .slice oa ops.length oc, .slice ia ids.length ic, .slice na ns.length nc, .int .i64 k, .slice pa l.length pc, .bool has] 33))) := Lib.hid (Kept.alloc Nob w _)
    go_loopw [4, 31] (fun o i wr => ∃ j : Nat, j ≤ ids.length ∧ i = .int .i64 j ∧ (∃ g c, o = .slice (some ⟨g, 0, none⟩) (j + 1) c) ∧ Own wr 9 o ((wOk :: (ids.take j).map Lib.itoa).map strV) (From (w.alloc (.cells #[.int .i64 0, .slice oa ops.length oc, .slice ia ids.length ic, .slice na ns.length nc, .int .i64 k, .slice pa l.length pc, .bool has] 33)).heap.size) ∧ Kept Nob (w.alloc (.cells #[.int .i64 0, .slice oa ops.length oc, .slice ia ids.length ic, .slice na ns.length nc, .int .i64 k, .slice pa l.length pc, .bool has] 33)) wr) (fun _ i _ => ids.length - (intOf i).toNat)
    case atStart => exact ⟨0, Nat.zero_le _, rfl, ⟨_, _, rfl⟩, by have := Own.new (w.alloc (.cells #[.int .i64 0, .slice oa ops.length oc, .slice ia ids.length ic, .slice na ns.length nc, .int .i64 k, .slice pa l.length pc, .bool has] 33)) [.string ⟨#[111, 107]⟩] 9 1 rfl (by unfold maxLen; omega); simpa [strV, wOk] using this, Kept.alloc _ _ _⟩
    case round =>
      obtain ⟨j, hj, rfl, ⟨g, cp, rfl⟩, hown, hw⟩ := hrel
      have HOw := Lib.hid hown
      have HWb := Lib.hid hw
      have HW := Lib.hid (HWB.out.then hw)
      clear hown hw
      by_cases hlt : j < ids.length
      · have hx : (ids.map (Value.int .i64))[j]? = some (.int .i64 ids[j]) := by rw [List.getElem?_map, List.getElem?_eq_getElem hlt]; rfl
        obtain ⟨b, o, rfl, hb, -, c0⟩ := (H2.out.kept HW.out (fun _ _ f => f)).at' hx
        have HIt := fun (wx : World) (kx : Kept Nob w wx) => Lib.hid (str_itoa wx ids[j] (HIi.out _ (List.getElem_mem hlt)).1 (HIi.out _ (List.getElem_mem hlt)).2 (HE.out.kept kx))
        have HTk : Hid (ids.take (j + 1) = ids.take j ++ [ids[j]]) := Lib.hid (List.take_succ_eq_append_getElem hlt)
        clear hx
        generalize ids[j] = n at *
        obtain ⟨nt, hnt⟩ : ∃ u, (⟨(Lib.itoa n).toArray⟩ : ByteArray) = u := ⟨_, rfl⟩
        simp only [strV, hnt] at HIt
        have HNt := Lib.hid hnt
        clear hnt
        go_wp2_with fail
        refine (HIt _ HW.out).out.mono ?_
        rintro e w1 ⟨rfl, hk1⟩
        have HW1 := Lib.hid (HWb.out.then hk1)
        have HOw1 := Lib.hid (HOw.out.kept hk1 (fun _ _ f => f))
        clear hk1
        go_wp2_with (at_builtin; refine wpList_append1_pg rfl _ _ 29 rfl tStrs (.slice (some ⟨g, 0, none⟩) (j + 1) cp) _ (.string nt) _ ⟨w1.heap.size, 0, none⟩ 1 rfl rfl (HOw1.out.alloc _) (by simp) rfl (Nat.le_refl _) rfl (by simp; omega) ?_; intro g2 cap2 w4 ho4 hk4; simp only [List.length_map, List.length_cons, List.length_take, Nat.min_eq_left hj] at ho4 ⊢; have HN := Lib.hid ((HOw1.out.alloc _).step (HW1.out.then (Kept.alloc Nob _ _)) ho4 hk4); clear ho4 hk4)
        go_roundw
        case rel =>
          refine ⟨j + 1, by omega, by go_num, ⟨_, _, rfl⟩, ?_, HN.out.2⟩
          have := HN.out.1
          rw [HTk.out]
          simpa [strV, HNt.out] using this
        case measure => simp [intOf]; omega
      · obtain rfl : j = ids.length := by omega
        have HOw0 : Hid (Own wr 9 (.slice (some ⟨g, 0, none⟩) (ids.length + 1) cp) (((wOk :: ids.map Lib.itoa) ++ (ns.take 0).map (nrTxt T)).map strV) (From (w.alloc (.cells #[.int .i64 0, .slice oa ops.length oc, .slice ia ids.length ic, .slice na ns.length nc, .int .i64 k, .slice pa l.length pc, .bool has] 33)).heap.size)) := Lib.hid (by have := HOw.out; rw [List.take_length] at this; simpa using this)
        have q3 := cell_at (new1 HWb.out) 3 _ rfl
        clear HOw
        go_wp2_with fail
        go_loopw [4, 44] (fun o i wr => ∃ j : Nat, j ≤ ns.length ∧ i = .int .i64 j ∧ (∃ g c, o = .slice (some ⟨g, 0, none⟩) (ids.length + 1 + j) c) ∧ Own wr 9 o (((wOk :: ids.map Lib.itoa) ++ (ns.take j).map (nrTxt T)).map strV) (From (w.alloc (.cells #[.int .i64 0, .slice oa ops.length oc, .slice ia ids.length ic, .slice na ns.length nc, .int .i64 k, .slice pa l.length pc, .bool has] 33)).heap.size) ∧ Kept Nob (w.alloc (.cells #[.int .i64 0, .slice oa ops.length oc, .slice ia ids.length ic, .slice na ns.length nc, .int .i64 k, .slice pa l.length pc, .bool has] 33)) wr) (fun _ i _ => ns.length - (intOf i).toNat)
        case atStart => exact ⟨0, Nat.zero_le _, rfl, ⟨_, _, rfl⟩, HOw0.out, HWb.out⟩
        case round =>
          clear HW HWb q3 HOw0 hlt hj
          obtain ⟨j, hj, rfl, ⟨g, cp, rfl⟩, hown, hw⟩ := hrel
          have HOw := Lib.hid hown
          have HWb := Lib.hid hw
          have HW := Lib.hid (HWB.out.then hw)
          clear hown hw
          by_cases hlt : j < ns.length
          · obtain ⟨b, o, rfl, hb, c0, c1, c2, c3⟩ := nr_at (H3.out.kept HW.out (fun _ _ f => f)) (List.getElem?_eq_getElem hlt)
            have HIt := fun (wx : World) (kx : Kept Nob w wx) => Lib.hid (str_itoa wx ns[j].id (HNn.out _ (List.getElem_mem hlt)).1 (HNn.out _ (List.getElem_mem hlt)).2 (HE.out.kept kx))
            have HTx := fun (wx : World) (kx : Kept Nob w wx) => Lib.hid (HTt.out ns[j] (List.getElem_mem hlt) wx kx)
            have hTl := HTl.out ns[j] (List.getElem_mem hlt)
            have hil := Lib.itoa_length_le ns[j].id (HNn.out _ (List.getElem_mem hlt)).1 (HNn.out _ (List.getElem_mem hlt)).2
            have HTk : Hid (ns.take (j + 1) = ns.take j ++ [ns[j]]) := Lib.hid (List.take_succ_eq_append_getElem hlt)
            generalize ns[j] = n at *
            obtain ⟨id, hi, lo, den⟩ := n
            simp only at c0 c1 c2 c3 HIt HTx hTl hil
            obtain ⟨nt, hnt⟩ : ∃ u, (⟨(Lib.itoa id).toArray⟩ : ByteArray) = u := ⟨_, rfl⟩
            obtain ⟨tt, htt⟩ : ∃ u, (⟨(T hi lo den).toArray⟩ : ByteArray) = u := ⟨_, rfl⟩
            have snt : nt.size ≤ 21 := by rw [← hnt]; show (Lib.itoa id).toArray.size ≤ 21; simpa using hil
            have stt : tt.size ≤ 1000 := by rw [← htt]; show (T hi lo den).toArray.size ≤ 1000; simpa using hTl
            simp only [strV, hnt] at HIt
            simp only [strV, htt] at HTx
            have HNt : Hid (strV (nrTxt T ⟨id, hi, lo, den⟩) = .string ((nt ++ ⟨#[64]⟩) ++ tt)) := Lib.hid (by
              have e1 := strV_append (Lib.itoa id) [64]
              have e2 := strV_append (Lib.itoa id ++ [64]) (T hi lo den)
              rw [hnt] at e1
              rw [htt, ← e1] at e2
              unfold strV nrTxt
              rw [show Lib.itoa id ++ 64 :: T hi lo den = Lib.itoa id ++ [64] ++ T hi lo den from by simp, ← e2])
            have hlw : (((wOk :: ids.map Lib.itoa) ++ (ns.take j).map (nrTxt T)).map strV).length = ids.length + 1 + j := by simp [Nat.min_eq_left hj]; omega
            have HLj := Lib.hid hlw
            clear hlw hTl hil hnt htt
            have hgw : g < wr.heap.size := HOw.out.blockLt rfl
            go_wp2_with fail
            refine wp_region_held_drew (S := (fun w' => w'.heap[wr.heap.size]? = some (.cells #[.int .i64 id, .int .u64 hi, .int .u64 lo, .int .u64 den] 73 (0, 0)))) (by kernel_rfl) ?_ (fun hHeld => ?_)
            · exact heap_alloc_new wr _
            refine take_to (i := 0) (oi := _) (v := ?_) (some 48) rfl (by kernel_rfl) (by kernel_rfl) (by kernel_rfl) (by kernel_rfl) (fun _ _ _ h => h) (Or.inl ⟨by kernel_rfl, ?_⟩) (by assumption) ?_
            case refine_2 => (intro w hSw; (try dsimp only at hSw); go_simp; (try rw [if_neg (by omega)]); try with_reducible rfl)
            try simp only [Act.put, List.setIfInBounds_toArray, List.set_cons_zero, List.set_cons_succ]
            refine take_to (i := 1) (oi := _) (v := ?_) (some 49) rfl (by kernel_rfl) (by kernel_rfl) (by kernel_rfl) (by kernel_rfl) (fun _ _ _ h => h) (Or.inl ⟨by kernel_rfl, ?_⟩) (by assumption) ?_
            case refine_2 => (intro w hSw; (try dsimp only at hSw); go_simp; (try rw [if_neg (by omega)]); try with_reducible rfl)
            try simp only [Act.put, List.setIfInBounds_toArray, List.set_cons_zero, List.set_cons_succ]
            refine take_to (i := 2) (oi := _) (v := ?_) (some 50) rfl (by kernel_rfl) (by kernel_rfl) (by kernel_rfl) (by kernel_rfl) (fun _ _ _ h => h) (Or.inl ⟨by kernel_rfl, ?_⟩) (by assumption) ?_
            case refine_2 => (intro w hSw; (try dsimp only at hSw); (have cc0 := cell_at hSw 0 _ rfl; have cc1 := cell_at hSw 1 _ rfl; have cc2 := cell_at hSw 2 _ rfl; have cc3 := cell_at hSw 3 _ rfl); go_simp; (try rw [if_neg (by omega)]); try with_reducible rfl)
            try simp only [Act.put, List.setIfInBounds_toArray, List.set_cons_zero, List.set_cons_succ]
            refine take_to (i := 5) (oi := _) (v := ?_) (some 53) rfl (by kernel_rfl) (by kernel_rfl) (by kernel_rfl) (by kernel_rfl) (fun _ _ _ h => h) (Or.inl ⟨by kernel_rfl, ?_⟩) (by assumption) ?_
            case refine_2 => (intro w hSw; (try dsimp only at hSw); go_simp; (try rw [if_neg (by omega)]); try with_reducible rfl)
            try simp only [Act.put, List.setIfInBounds_toArray, List.set_cons_zero, List.set_cons_succ]
            refine take_to (i := 6) (oi := _) (v := ?_) (some 54) rfl (by kernel_rfl) (by kernel_rfl) (by kernel_rfl) (by kernel_rfl) (fun _ _ _ h => h) (Or.inl ⟨by kernel_rfl, ?_⟩) (by assumption) ?_
            case refine_2 => (intro w hSw; (try dsimp only at hSw); (have cc0 := cell_at hSw 0 _ rfl; have cc1 := cell_at hSw 1 _ rfl; have cc2 := cell_at hSw 2 _ rfl; have cc3 := cell_at hSw 3 _ rfl); go_simp; (try rw [if_neg (by omega)]); try with_reducible rfl)
            try simp only [Act.put, List.setIfInBounds_toArray, List.set_cons_zero, List.set_cons_succ]
            refine wpAnyH_ready (rs := [3]) (by kernel_rfl) (by simp) ?_
            refine AllReadyH.cons (o := _) rfl (fun K hK => ?_) AllReadyH.nil
            go_simp
            go_at_call 27
            refine (HIt _ ((HW.out.then (Kept.alloc Nob wr _)).then (Kept.drew Nob _))).out.mono ?_
            rintro e w2 ⟨rfl, hk2⟩
            have HK2 := Lib.hid (((Kept.alloc Nob wr _).then (Kept.drew Nob _)).then hk2)
            try go_wp2_with fail
            refine hK.out _ _ ((hk2.block _ (Array.getElem?_eq_some_iff.1 hHeld).1 (fun f => f)).trans hHeld) (fun hHeld => ?_)
            clear hK K
            try simp only [Act.put, List.setIfInBounds_toArray, List.set_cons_zero, List.set_cons_succ]
            refine take_to (i := 4) (oi := _) (v := ?_) (some 52) rfl (by kernel_rfl) (by kernel_rfl) (by kernel_rfl) (by kernel_rfl) (fun _ _ _ h => h) (Or.inl ⟨by kernel_rfl, ?_⟩) (by assumption) ?_
            case refine_2 => (intro w hSw; (try dsimp only at hSw); go_simp; (try rw [if_neg (by omega)]); try with_reducible rfl)
            try simp only [Act.put, List.setIfInBounds_toArray, List.set_cons_zero, List.set_cons_succ]
            refine wpAnyH_ready (rs := [7]) (by kernel_rfl) (by simp) ?_
            refine AllReadyH.cons (o := _) rfl (fun K hK => ?_) AllReadyH.nil
            go_simp
            go_at_call 29
            refine (HTx _ (HW.out.then HK2.out)).out.mono ?_
            rintro e w3 ⟨rfl, hk3⟩
            have HK3 := Lib.hid (HK2.out.then hk3)
            try go_wp2_with fail
            refine hK.out _ _ ((hk3.block _ (Array.getElem?_eq_some_iff.1 hHeld).1 (fun f => f)).trans hHeld) (fun hHeld => ?_)
            clear hK K
            try simp only [Act.put, List.setIfInBounds_toArray, List.set_cons_zero, List.set_cons_succ]
            refine take_to (i := 8) (oi := _) (v := ?_) (some 56) rfl (by kernel_rfl) (by kernel_rfl) (by kernel_rfl) (by kernel_rfl) (fun _ _ _ h => h) (Or.inl ⟨by kernel_rfl, ?_⟩) (by assumption) ?_
            case refine_2 => (intro w hSw; (try dsimp only at hSw); go_simp; (try rw [if_neg (by omega)]); try with_reducible rfl)
            try simp only [Act.put, List.setIfInBounds_toArray, List.set_cons_zero, List.set_cons_succ]
            refine wpAnyH_ready (rs := [9]) (by kernel_rfl) (by simp) ?_
            refine AllReadyH.cons (o := _) rfl (fun K hK => ?_) AllReadyH.nil
            go_simp
            refine hK.out _ _ (((Kept.alloc Nob _ _).block _ (Array.getElem?_eq_some_iff.1 hHeld).1 (fun f => f)).trans hHeld) (fun hHeld => ?_)
            clear hK K
            try simp only [Act.put, List.setIfInBounds_toArray, List.set_cons_zero, List.set_cons_succ]
            refine wpAnyH_ready (rs := [10]) (by kernel_rfl) (by simp) ?_
            refine AllReadyH.cons (o := _) rfl (fun K hK => ?_) AllReadyH.nil
            have HNK := Lib.hid (HWb.out.then (HK3.out.then (Kept.alloc Nob w3 (.cells #[.string ((nt ++ ⟨#[64]⟩) ++ tt)] 9))))
            have HOw1 := Lib.hid (HOw.out.kept (HK3.out.then (Kept.alloc Nob w3 (.cells #[.string ((nt ++ ⟨#[64]⟩) ++ tt)] 9))) (fun _ _ f => f))
            refine step_append1_pg rfl _ _ 29 rfl tStrs (.slice (some ⟨g, 0, none⟩) (ids.length + 1 + j) cp) _ (.string ((nt ++ ⟨#[64]⟩) ++ tt)) _ ⟨_, 0, none⟩ 1 rfl rfl HOw1.out (by simp) rfl (Nat.le_refl _) rfl (by rw [HLj.out]; omega) ?_
            intro g2 cap2 w4 ho4 hk4
            have HN := Lib.hid (HOw1.out.step HNK.out ho4 hk4)
            have hS4 := (hk4.block wr.heap.size (Array.getElem?_eq_some_iff.1 hHeld).1 (fun (h : some g = some wr.heap.size) => by injection h with h; omega)).trans hHeld
            clear hk4 ho4
            rw [HLj.out] at HN
            refine hK.out _ _ (hS4) (fun hHeld => ?_)
            clear hK K
            try simp only [Act.put, List.setIfInBounds_toArray]
            refine take_to (i := 11) (oi := _) (v := ?_) (some 4) rfl (by kernel_rfl) (by kernel_rfl) (by kernel_rfl) (by kernel_rfl) (fun _ _ _ h => h) (Or.inl ⟨by kernel_rfl, ?_⟩) (by assumption) ?_
            case refine_2 => (intro w hSw; (try dsimp only at hSw); go_simp; (try rw [if_neg (by omega)]); try with_reducible rfl)
            try simp only [Act.put]
            refine wpAnyH_done (by kernel_rfl) ?_ _
            go_wp2_with fail
            refine ⟨⟨j + 1, by omega, by go_num, ⟨g2, cap2, by congr 1; omega⟩, ?_, HN.out.2⟩, by simp [intOf]; omega⟩
            have := HN.out.1
            rw [HTk.out, show ids.length + j + 1 + 1 = ids.length + 1 + j + 1 from by omega]
            rw [← HNt.out] at this
            simpa [List.map_append, List.append_assoc] using this
          · obtain rfl : j = ns.length := by omega
            have HOw0 : Hid (Own wr 9 (.slice (some ⟨g, 0, none⟩) (ids.length + 1 + ns.length) cp) (((wOk :: ids.map Lib.itoa) ++ ns.map (nrTxt T)).map strV) (From (w.alloc (.cells #[.int .i64 0, .slice oa ops.length oc, .slice ia ids.length ic, .slice na ns.length nc, .int .i64 k, .slice pa l.length pc, .bool has] 33)).heap.size)) := Lib.hid (by have := HOw.out; rw [List.take_length] at this; exact this)
            have BB := Lib.hid (new1 HWb.out)
            have q4 := cell_at BB.out 4 _ rfl
            have q5 := cell_at BB.out 5 _ rfl
            have q6 := cell_at BB.out 6 _ rfl
            clear HOw
            cases has with
            | false =>
              have HA : Hid (ansWords T ids ns ⟨k, l⟩ false = (wOk :: ids.map Lib.itoa) ++ ns.map (nrTxt T)) := Lib.hid (by simp [ansWords])
              have HJ := Lib.hid (str_join wr _ (ansWords T ids ns ⟨k, l⟩ false) _ (by rw [HA.out]; exact HOw0.out.reads) HLen.out.2 HLen.out.1)
              rw [← HR.out] at HJ
              clear HLen
              go_wp2_with fail
              refine HJ.out.mono ?_
              rintro e w5 ⟨rfl, hk5⟩
              have HK5 := Lib.hid (HW.out.then hk5)
              clear hk5
              go_wp2_with fail
              go_ret
              exact ⟨rfl, HK5.out⟩
            | true =>
              have HObw := HOb _ HW.out
              obtain ⟨ot, hot⟩ : ∃ u, (⟨(obText ⟨k, l⟩).toArray⟩ : ByteArray) = u := ⟨_, rfl⟩
              have sot : ot.size ≤ 5000 := by rw [← hot]; show (obText ⟨k, l⟩).toArray.size ≤ _; simpa using obText_len ⟨k, l⟩
              simp only [strV, hot] at HObw
              have HOt : Hid (strV ((91 :: obText ⟨k, l⟩) ++ [93]) = .string ((⟨#[91]⟩ ++ ot) ++ ⟨#[93]⟩)) := Lib.hid (by
                have e1 := strV_append [91] (obText ⟨k, l⟩)
                have e2 := strV_append ([91] ++ obText ⟨k, l⟩) [93]
                rw [hot] at e1
                rw [← e1] at e2
                unfold strV
                rw [show (91 :: obText ⟨k, l⟩) ++ [93] = [91] ++ obText ⟨k, l⟩ ++ [93] from rfl, ← e2])
              clear hot
              have HA : Hid (ansWords T ids ns ⟨k, l⟩ true = ((wOk :: ids.map Lib.itoa) ++ ns.map (nrTxt T)) ++ [(91 :: obText ⟨k, l⟩) ++ [93]]) := Lib.hid (by simp [ansWords])
              have hlw : (((wOk :: ids.map Lib.itoa) ++ ns.map (nrTxt T)).map strV).length = ids.length + 1 + ns.length := by simp; omega
              have HLw := Lib.hid hlw
              clear hlw
              go_wp2_with fail
              refine HObw.out.mono ?_
              rintro e w1 ⟨rfl, hk1⟩
              have HW1 := Lib.hid (HWb.out.then hk1)
              have HOw1 := Lib.hid (HOw0.out.kept hk1 (fun _ _ f => f))
              clear hk1
              go_wp2_with (at_builtin; refine wpList_append1_pg rfl _ _ 29 rfl tStrs (.slice (some ⟨g, 0, none⟩) (ids.length + 1 + ns.length) cp) _ (.string ((⟨#[91]⟩ ++ ot) ++ ⟨#[93]⟩)) _ ⟨w1.heap.size, 0, none⟩ 1 rfl rfl (HOw1.out.alloc _) (by simp) rfl (Nat.le_refl _) rfl (by rw [HLw.out]; omega) ?_; intro g2 cap2 w4 ho4 hk4; have HN := Lib.hid ((HOw1.out.alloc _).step (HW1.out.then (Kept.alloc Nob _ _)) ho4 hk4); clear ho4 hk4)
              obtain ⟨FF, HV⟩ : ∃ FF, Hid (Reads w4 (.slice (some ⟨g2, 0, none⟩) (ids.length + ns.length + 1 + 1) cap2) ((ansWords T ids ns ⟨k, l⟩ true).map strV) FF) := ⟨_, Lib.hid (by
                have := HN.out.1.reads
                rw [HLw.out, ← HOt.out] at this
                rw [HA.out, List.map_append, show ids.length + ns.length + 1 + 1 = ids.length + 1 + ns.length + 1 from by omega]
                exact this)⟩
              have HJ := Lib.hid (str_join w4 _ (ansWords T ids ns ⟨k, l⟩ true) _ HV.out HLen.out.2 HLen.out.1)
              rw [← HR.out] at HJ
              have HK4 := Lib.hid (HWB.out.then HN.out.2)
              clear HLen HV HN
              refine HJ.out.mono ?_
              rintro e w5 ⟨rfl, hk5⟩
              have HK5 := Lib.hid (HK4.out.then hk5)
              clear hk5
              go_wp2_with fail
              go_ret
              exact ⟨rfl, HK5.out⟩
end Go.Proofs.YthjiobmglebmdaaGreatDoor
