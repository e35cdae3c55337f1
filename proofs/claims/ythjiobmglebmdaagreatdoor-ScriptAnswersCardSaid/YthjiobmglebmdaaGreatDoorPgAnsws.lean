/- The document's Say: an answer's text. Printed by gen_say.py. ScriptAnswers: the program and the document write any answer alike. Printed by gen_answers.py. -/
import Derived.Test.YthjiobmglebmdaaGreatDoorPgRfObj
import Derived.Test.YthjiobmglebmdaaGreatDoorPgScAns
import Derived.Test.YthjiobmglebmdaaGreatDoorPgFracs
import Derived.Test.YthjiobmglebmdaaGreatDoorPgScAwake
namespace Go.Proofs.YthjiobmglebmdaaGreatDoor
open Go.RowKit

open Go.Proofs.YthjiobmglebmdaaGreatDoor.Geo Go.Proofs.YthjiobmglebmdaaGreatDoor.Txt

theorem tail_len {B : Nat} {r : List (List UInt8)} (h : ∀ x ∈ r, x.length ≤ B) (k : Nat) : (Lib.joinTail [32] (r.take k)).length ≤ (B + 1) * r.length := by
  have h1 := Lib.joinTail_take_le [32] r k
  have h2 := Lib.joinTail_length [32] r
  have h3 := lens_le h
  rw [Nat.add_mul]
  simp at h2
  omega
/-- what stands of the ops behind so many -/
def opsPart (ops : List (List UInt8)) (k : Nat) : List UInt8 := if k = 0 then [] else 58 :: Lib.joinTail [32] (ops.take k)
theorem opsPart_step {ops : List (List UInt8)} {k : Nat} (h : k < ops.length) : opsPart ops (k + 1) = opsPart ops k ++ (if k = 0 then [58] else []) ++ [32] ++ ops[k] := by
  unfold opsPart
  rw [if_neg (by omega), Lib.joinTail_take_succ [32] ops k ops[k] (List.getElem?_eq_getElem h)]
  by_cases h0 : k = 0
  · subst h0; simp [Lib.joinTail]
  · simp [h0]
theorem opsPart_len {ops : List (List UInt8)} (h1 : ops.length ≤ 1000) (h2 : ∀ x ∈ ops, x.length ≤ 1000) (k : Nat) : (opsPart ops k).length ≤ 1100000 := by
  have := tail_len h2 k
  unfold opsPart
  split
  · simp
  · simp; omega
theorem ans_err {T : Int → Int → Int → List UInt8} {c : Int} {ops : List (List UInt8)} {ids : List Int} {ns : List Nr} {ob : Ob} {has : Bool} (hc : c ≠ 0) : ansText T c ops ids ns ob has = (wError ++ Lib.itoa c) ++ opsPart ops ops.length := by
  unfold ansText opsPart
  rw [if_neg hc, List.take_length]
  cases ops with
  | nil => simp
  | cons x r => simp [Lib.join_cons, Lib.joinTail]
theorem ans_ok {T : Int → Int → Int → List UInt8} {ops : List (List UInt8)} {ids : List Int} {ns : List Nr} {ob : Ob} {has : Bool} : ansText T 0 ops ids ns ob has =
    ((wOk ++ Lib.joinTail [32] (ids.map Lib.itoa)) ++ Lib.joinTail [32] (ns.map (nrTxt T))) ++ (if has = true then [32, 91] ++ obText ob ++ [93] else []) := by
  unfold ansText ansWords
  rw [if_pos rfl, List.cons_append, List.cons_append, Lib.join_cons]
  cases has <;> simp [Lib.joinTail]
set_option maxRecDepth 100000 in
set_option maxHeartbeats 8000000 in
theorem ref_Say (w : World) (c k : Int) (vo vi vn vp : Value) (ops : List (List UInt8)) (ids : List Int) (ns : List Nr) (l : List Pt) (has : Bool) (F1 F2 F3 F4 : Nat → Prop) (T : Int → Int → Int → List UInt8)
    (h1 : Reads w vo (ops.map strV) F1) (h2 : Reads w vi (ids.map (.int .i64)) F2) (h3 : ReadsK 4 w vn ns.length (nrCells ns) F3) (h4 : PtsAt w vp l F4)
    (b1 : ops.length ≤ 1000) (b1' : ∀ x ∈ ops, x.length ≤ 1000) (b2 : ids.length ≤ 1000) (b3 : ns.length ≤ 1000) (b4 : l.length < 1000000000) (hc : InI64 c) (hi : ∀ n ∈ ids, InI64 n) (hn : ∀ n ∈ ns, InI64 n.id) (hT : ∀ n ∈ ns, (T n.hi n.lo n.den).length ≤ 1000)
    (HT : ∀ n ∈ ns, ∀ wx, Kept Nob w wx → Calls Tryz.prog 31 #[.agg #[.int .u64 n.hi, .int .u64 n.lo, .int .u64 n.den]] wx fun e w' => e = .returned (strV (T n.hi n.lo n.den)) ∧ Kept Nob wx w') :
    Calls Tryz.prog 10 #[.agg #[.int .i64 c, vi, vn, .int .i64 k, vp, .bool has], vo] w fun e w' => e = .returned (strV (ansText T c ops ids ns ⟨k, l⟩ has)) ∧ Kept Nob w w' := by
  obtain ⟨oa, oc, rfl, -⟩ := h1.shape
  obtain ⟨ia, ic, rfl, -⟩ := h2.shape
  obtain ⟨na, nc, rfl, -⟩ := h3.shape
  obtain ⟨pa, pc, rfl⟩ := h4.shape
  have e1 : (ops.map strV).length = ops.length := by simp
  have e2 : (ids.map (Value.int .i64)).length = ids.length := by simp
  rw [e1, e2]
  rw [e1] at h1
  rw [e2] at h2
  clear e1 e2
  have H1 := Lib.hid h1
  have H2 := Lib.hid h2
  have H3 := Lib.hid h3
  have H4 := Lib.hid h4
  have HTt := Lib.hid HT
  have HIi := Lib.hid hi
  have HNn := Lib.hid hn
  have HTl := Lib.hid hT
  have HOb := fun (wx : World) (kx : Kept Nob w wx) => Lib.hid (ref_Object wx k _ l F4 (h4.nob kx) b4)
  clear h1 h2 h3 h4 HT hi hn hT
  by_cases hc0 : c = 0
  case neg =>
    have hbc : (c != 0) = true := by simpa using hc0
    have HD := fun (wx : World) => Lib.hid (ref_Decimal wx c hc)
    have HR := Lib.hid (ans_err (T := T) (ops := ops) (ids := ids) (ns := ns) (ob := ⟨k, l⟩) (has := has) hc0)
    have HL := Lib.hid (opsPart_len b1 b1')
    have hil := Lib.itoa_length_le c hc.1 hc.2
    have HBO := Lib.hid b1'
    obtain ⟨cv, hcv⟩ : ∃ u, (⟨(Lib.itoa c).toArray⟩ : ByteArray) = u := ⟨_, rfl⟩
    have hcs : cv.size ≤ 21 := by rw [← hcv]; simpa [ByteArray.size] using hil
    unfold strV at HD
    rw [hcv] at HD
    obtain ⟨pre, hpre⟩ : ∃ u, wError ++ Lib.itoa c = u := ⟨_, rfl⟩
    rw [hpre] at HR
    have hpl : pre.length ≤ 30 := by rw [← hpre]; simp [wError]; omega
    have HPre : Hid ((⟨#[101, 114, 114, 111, 114, 32]⟩ : ByteArray) ++ cv = ⟨pre.toArray⟩) := Lib.hid (by
      rw [← hcv, ← hpre, ← strV_append]; rfl)
    generalize ansText T c ops ids ns ⟨k, l⟩ has = res at *
    clear hil hcv hc0 hc hpre b1' HOb
    go_enter Tryz.func10, Tryz.ntmps10
    go_wp2_with fail
    refine (HD _).out.mono ?_
    rintro e w1 ⟨rfl, hk1⟩
    have HK1 := Lib.hid ((Kept.alloc Nob w _).then hk1)
    clear hk1
    go_wp2_with fail
    rw [HPre.out]
    go_loopw [5, 6] (fun s i wr => ∃ j : Nat, j ≤ ops.length ∧ i = .int .i64 j ∧ s = strV (pre ++ opsPart ops j) ∧ Kept Nob w wr) (fun _ i _ => ops.length - (intOf i).toNat)
    case atStart => exact ⟨0, Nat.zero_le _, rfl, by simp [strV, opsPart], HK1.out⟩
    case round =>
      obtain ⟨j, hj, rfl, rfl, hw⟩ := hrel
      have HW := Lib.hid hw
      clear hw
      obtain ⟨xv, hxv⟩ : ∃ u, (⟨(pre ++ opsPart ops j).toArray⟩ : ByteArray) = u := ⟨_, rfl⟩
      have hxs : xv.size ≤ 1200000 := by
        have := HL.out j
        rw [← hxv]; simp [ByteArray.size]; omega
      have HXv := Lib.hid hxv
      unfold strV
      rw [hxv]
      clear hxv
      by_cases hlt : j < ops.length
      · have hx : (ops.map strV)[j]? = some (strV ops[j]) := by rw [List.getElem?_map, List.getElem?_eq_getElem hlt]; rfl
        obtain ⟨b, o, rfl, hb, -, c0⟩ := (H1.out.kept HW.out (fun _ _ f => f)).at' hx
        have HSt := Lib.hid (opsPart_step hlt)
        have hol := HBO.out _ (List.getElem_mem hlt)
        clear hx
        generalize ops[j] = ov at *
        obtain ⟨nt, hnt⟩ : ∃ u, (⟨ov.toArray⟩ : ByteArray) = u := ⟨_, rfl⟩
        have hns : nt.size ≤ 1000 := by rw [← hnt]; simpa [ByteArray.size] using hol
        unfold strV at c0
        rw [hnt] at c0
        have HNt := Lib.hid hnt
        clear hnt hol
        by_cases hj0 : j = 0
        · subst hj0
          simp only [Nat.add_zero] at c0
          go_wp2_with fail
          go_roundw
          case rel =>
            refine ⟨0 + 1, by omega, by go_num, ?_, HW.out⟩
            rw [HSt.out, ← HXv.out, ← HNt.out]
            rw [show (⟨#[58]⟩ : ByteArray) = ⟨[58].toArray⟩ from rfl, show (⟨#[32]⟩ : ByteArray) = ⟨[32].toArray⟩ from rfl, strV_append, strV_append, strV_append]
            simp 
          case measure => simp [intOf]; omega
        · have hj1 : ((j : Int) == 0) = false := by simpa using hj0
          go_wp2_with fail
          go_roundw
          case rel =>
            refine ⟨j + 1, by omega, by go_num, ?_, HW.out⟩
            rw [HSt.out, ← HXv.out, ← HNt.out, if_neg hj0]
            rw [show (⟨#[32]⟩ : ByteArray) = ⟨[32].toArray⟩ from rfl, strV_append, strV_append]
            simp 
          case measure => simp [intOf]; omega
      · obtain rfl : j = ops.length := by omega
        go_wp2_with fail
        go_ret
        exact ⟨by rw [HR.out, ← HXv.out]; rfl, HW.out⟩
  case pos =>
    subst hc0
    have HR := Lib.hid (ans_ok (T := T) (ops := ops) (ids := ids) (ns := ns) (ob := ⟨k, l⟩) (has := has))
    generalize ansText T 0 ops ids ns ⟨k, l⟩ has = res at *
    have HIl := Lib.hid (tail_len (r := ids.map Lib.itoa) (B := 21) (fun x hx => by
      rw [List.mem_map] at hx
      obtain ⟨n, hn, rfl⟩ := hx
      have := Lib.itoa_length_le n (HIi.out n hn).1 (HIi.out n hn).2; omega))
    have HNl := Lib.hid (tail_len (r := ns.map (nrTxt T)) (B := 1100) (fun x hx => by
      rw [List.mem_map] at hx
      obtain ⟨n, hn, rfl⟩ := hx
      have := Lib.itoa_length_le n.id (HNn.out n hn).1 (HNn.out n hn).2
      have := HTl.out n hn
      unfold nrTxt
      simp only [List.length_append, List.length_cons]
      omega))
    simp only [List.length_map] at HIl HNl
    go_enter Tryz.func10, Tryz.ntmps10
    go_wp2_with fail
    have HWB : Hid (Kept Nob w (w.alloc (.cells #[.int .i64 0, .slice ia ids.length ic, .slice na ns.length nc, .int .i64 k, .slice pa l.length pc, .bool has] 28))) := Lib.hid (Kept.alloc Nob w _)
    go_loopw [7, 8] (fun s i wr => ∃ j : Nat, j ≤ ids.length ∧ i = .int .i64 j ∧ s = strV (wOk ++ Lib.joinTail [32] ((ids.map Lib.itoa).take j)) ∧ Kept Nob (w.alloc (.cells #[.int .i64 0, .slice ia ids.length ic, .slice na ns.length nc, .int .i64 k, .slice pa l.length pc, .bool has] 28)) wr) (fun _ i _ => ids.length - (intOf i).toNat)
    case atStart => exact ⟨0, Nat.zero_le _, rfl, by simp [strV, wOk, Lib.joinTail], Kept.refl _ _⟩
    case round =>
      obtain ⟨j, hj, rfl, rfl, hw⟩ := hrel
      have HWb := Lib.hid hw
      have HW := Lib.hid (HWB.out.then hw)
      have bb := new1 hw
      have d1 := cell_at bb 1 _ rfl
      have d2 := cell_at bb 2 _ rfl
      clear hw bb
      obtain ⟨xv, hxv⟩ : ∃ u, (⟨(wOk ++ Lib.joinTail [32] ((ids.map Lib.itoa).take j)).toArray⟩ : ByteArray) = u := ⟨_, rfl⟩
      have hxs : xv.size ≤ 30000 := by
        have := HIl.out j
        rw [← hxv]; simp [ByteArray.size, wOk]; omega
      have HXv := Lib.hid hxv
      unfold strV
      rw [hxv]
      clear hxv
      by_cases hlt : j < ids.length
      · have hx : (ids.map (Value.int .i64))[j]? = some (.int .i64 ids[j]) := by rw [List.getElem?_map, List.getElem?_eq_getElem hlt]; rfl
        obtain ⟨b, o, rfl, hb, -, c0⟩ := (H2.out.kept HW.out (fun _ _ f => f)).at' hx
        have HIt := fun (wx : World) => Lib.hid (ref_Decimal wx ids[j] (HIi.out _ (List.getElem_mem hlt)))
        have hil := Lib.itoa_length_le ids[j] (HIi.out _ (List.getElem_mem hlt)).1 (HIi.out _ (List.getElem_mem hlt)).2
        have HSt := Lib.hid (Lib.joinTail_take_succ [32] (ids.map Lib.itoa) j (Lib.itoa ids[j]) (by rw [List.getElem?_map, List.getElem?_eq_getElem hlt]; rfl))
        clear hx
        generalize ids[j] = n at *
        obtain ⟨nt, hnt⟩ : ∃ u, (⟨(Lib.itoa n).toArray⟩ : ByteArray) = u := ⟨_, rfl⟩
        have hns : nt.size ≤ 21 := by rw [← hnt]; show (Lib.itoa n).toArray.size ≤ 21; simpa using hil
        simp only [strV, hnt] at HIt
        have HNt := Lib.hid hnt
        clear hnt hil
        go_wp2_with fail
        refine (HIt _).out.mono ?_
        rintro e w1 ⟨rfl, hk1⟩
        have HW1 := Lib.hid (HWb.out.then hk1)
        clear hk1
        go_wp2_with fail
        go_roundw
        case rel =>
          refine ⟨j + 1, by omega, by go_num, ?_, HW1.out⟩
          rw [HSt.out, ← HXv.out, ← HNt.out]
          rw [show (⟨#[32]⟩ : ByteArray) = ⟨[32].toArray⟩ from rfl, strV_append, strV_append]
          simp 
        case measure => simp [intOf]; omega
      · obtain rfl : j = ids.length := by omega
        have HXe : Hid (xv = ⟨(wOk ++ Lib.joinTail [32] (ids.map Lib.itoa)).toArray⟩) := Lib.hid (by
          have h := HXv.out
          rw [List.take_of_length_le (by simp)] at h
          exact h.symm)
        obtain ⟨pre, hpre⟩ : ∃ u, wOk ++ Lib.joinTail [32] (ids.map Lib.itoa) = u := ⟨_, rfl⟩
        rw [hpre] at HR HXe
        have hpl : pre.length ≤ 30000 := by
          have h := hxs
          rw [HXe.out] at h
          simpa [ByteArray.size] using h
        clear hpre HXv HIl HIi
        go_wp2_with fail
        rw [HXe.out]
        clear hxs HXe
        go_loopw [7, 9] (fun s i wx => ∃ j : Nat, j ≤ ns.length ∧ i = .int .i64 j ∧ s = strV (pre ++ Lib.joinTail [32] ((ns.map (nrTxt T)).take j)) ∧ Kept Nob (w.alloc (.cells #[.int .i64 0, .slice ia ids.length ic, .slice na ns.length nc, .int .i64 k, .slice pa l.length pc, .bool has] 28)) wx) (fun _ i _ => ns.length - (intOf i).toNat)
        case atStart => exact ⟨0, Nat.zero_le _, rfl, by simp [strV, Lib.joinTail], HWb.out⟩
        case round =>
          clear HW HWb d1 d2 hlt hj
          obtain ⟨j, hj, rfl, rfl, hw⟩ := hrel
          have HWb := Lib.hid hw
          have HW := Lib.hid (HWB.out.then hw)
          have bb := new1 hw
          have d2 := cell_at bb 2 _ rfl
          have d3 := cell_at bb 3 _ rfl
          have d4 := cell_at bb 4 _ rfl
          have d5 := cell_at bb 5 _ rfl
          have HBB := Lib.hid bb
          clear hw bb
          obtain ⟨xv, hxv⟩ : ∃ u, (⟨(pre ++ Lib.joinTail [32] ((ns.map (nrTxt T)).take j)).toArray⟩ : ByteArray) = u := ⟨_, rfl⟩
          have hxs : xv.size ≤ 2000000 := by
            have := HNl.out j
            rw [← hxv]; simp [ByteArray.size]; omega
          have HXv := Lib.hid hxv
          unfold strV
          rw [hxv]
          clear hxv
          by_cases hlt : j < ns.length
          · obtain ⟨b, o, rfl, hb, c0, c1, c2, c3⟩ := nr_at (H3.out.kept HW.out (fun _ _ f => f)) (List.getElem?_eq_getElem hlt)
            have HIt := fun (wx : World) => Lib.hid (ref_Decimal wx ns[j].id (HNn.out _ (List.getElem_mem hlt)))
            have HTx := fun (wx : World) (kx : Kept Nob w wx) => Lib.hid (HTt.out ns[j] (List.getElem_mem hlt) wx kx)
            have hTl := HTl.out ns[j] (List.getElem_mem hlt)
            have hil := Lib.itoa_length_le ns[j].id (HNn.out _ (List.getElem_mem hlt)).1 (HNn.out _ (List.getElem_mem hlt)).2
            have HSt := Lib.hid (Lib.joinTail_take_succ [32] (ns.map (nrTxt T)) j (nrTxt T ns[j]) (by rw [List.getElem?_map, List.getElem?_eq_getElem hlt]; rfl))
            generalize ns[j] = n at *
            obtain ⟨id, hi, lo, den⟩ := n
            simp only at c0 c1 c2 c3 HIt HTx hTl hil
            obtain ⟨nt, hnt⟩ : ∃ u, (⟨(Lib.itoa id).toArray⟩ : ByteArray) = u := ⟨_, rfl⟩
            obtain ⟨tt, htt⟩ : ∃ u, (⟨(T hi lo den).toArray⟩ : ByteArray) = u := ⟨_, rfl⟩
            have snt : nt.size ≤ 21 := by rw [← hnt]; show (Lib.itoa id).toArray.size ≤ 21; simpa using hil
            have stt : tt.size ≤ 1000 := by rw [← htt]; show (T hi lo den).toArray.size ≤ 1000; simpa using hTl
            simp only [strV, hnt] at HIt
            simp only [strV, htt] at HTx
            have HNt : Hid (strV (pre ++ Lib.joinTail [32] ((ns.map (nrTxt T)).take (j + 1))) = .string ((((xv ++ ⟨#[32]⟩) ++ nt) ++ ⟨#[64]⟩) ++ tt)) := Lib.hid (by
              rw [HSt.out, ← HXv.out, ← hnt, ← htt, show (⟨#[32]⟩ : ByteArray) = ⟨[32].toArray⟩ from rfl, show (⟨#[64]⟩ : ByteArray) = ⟨[64].toArray⟩ from rfl, strV_append, strV_append, strV_append, strV_append]
              simp [strV, nrTxt])
            clear hTl hil hnt htt HSt
            have HC := fun (W : World) (kx : Kept Nob wr W) => Lib.hid (And.intro ((kx.block w.heap.size (Array.getElem?_eq_some_iff.1 HBB.out).1 (fun f => f)).trans HBB.out) (And.intro ((kx.cell (p := ⟨b, o + j * 4, none⟩) hb (fun f => f)).trans c0) (And.intro ((kx.cell (p := ⟨b, o + j * 4 + 1, none⟩) hb (fun f => f)).trans c1) (And.intro ((kx.cell (p := ⟨b, o + j * 4 + 2, none⟩) hb (fun f => f)).trans c2) ((kx.cell (p := ⟨b, o + j * 4 + 3, none⟩) hb (fun f => f)).trans c3)))))
            go_wp2_with fail
            refine wp_region_held_drew (S := (fun W => Kept Nob wr W)) (by kernel_rfl) ?_ (fun hHeld => ?_)
            · first | exact Kept.refl _ _ | exact Kept.drew _ _
            refine take_to (i := 0) (oi := _) (v := ?_) (some 58) rfl (by kernel_rfl) (by kernel_rfl) (by kernel_rfl) (by kernel_rfl) (fun _ _ _ h => h) (Or.inl ⟨by kernel_rfl, ?_⟩) (by assumption) ?_
            case refine_2 => (intro w hSw; (try dsimp only at hSw); go_simp; (try rw [if_neg (by omega)]); try with_reducible rfl)
            try simp only [Act.put, List.setIfInBounds_toArray, List.set_cons_zero, List.set_cons_succ]
            refine take_to (i := 1) (oi := _) (v := ?_) (some 59) rfl (by kernel_rfl) (by kernel_rfl) (by kernel_rfl) (by kernel_rfl) (fun _ _ _ h => h) (Or.inl ⟨by kernel_rfl, ?_⟩) (by assumption) ?_
            case refine_2 => (intro w hSw; (try dsimp only at hSw); go_simp; (try rw [if_neg (by omega)]); try with_reducible rfl)
            try simp only [Act.put, List.setIfInBounds_toArray, List.set_cons_zero, List.set_cons_succ]
            refine take_to (i := 2) (oi := _) (v := ?_) (some 60) rfl (by kernel_rfl) (by kernel_rfl) (by kernel_rfl) (by kernel_rfl) (fun _ _ _ h => h) (Or.inl ⟨by kernel_rfl, ?_⟩) (by assumption) ?_
            case refine_2 => (intro w hSw; (try dsimp only at hSw); go_simp; (try rw [if_neg (by omega)]); try with_reducible rfl)
            try simp only [Act.put, List.setIfInBounds_toArray, List.set_cons_zero, List.set_cons_succ]
            refine take_to (i := 3) (oi := _) (v := ?_) (some 61) rfl (by kernel_rfl) (by kernel_rfl) (by kernel_rfl) (by kernel_rfl) (fun _ _ _ h => h) (Or.inl ⟨by kernel_rfl, ?_⟩) (by assumption) ?_
            case refine_2 => (intro w hSw; (try dsimp only at hSw); have q0 := (HC _ hSw).out; have e2 := cell_at q0.1 2 _ rfl; have u0 := q0.2.1; have u1 := q0.2.2.1; have u2 := q0.2.2.2.1; have u3 := q0.2.2.2.2; clear q0; go_simp; (try rw [if_neg (by omega)]); try with_reducible rfl)
            try simp only [Act.put, List.setIfInBounds_toArray, List.set_cons_zero, List.set_cons_succ]
            refine take_to (i := 4) (oi := _) (v := ?_) (some 62) rfl (by kernel_rfl) (by kernel_rfl) (by kernel_rfl) (by kernel_rfl) (fun _ _ _ h => h) (Or.inl ⟨by kernel_rfl, ?_⟩) (by assumption) ?_
            case refine_2 => (intro w hSw; (try dsimp only at hSw); go_simp; (try rw [if_neg (by omega)]); try with_reducible rfl)
            try simp only [Act.put, List.setIfInBounds_toArray, List.set_cons_zero, List.set_cons_succ]
            refine take_to (i := 5) (oi := _) (v := ?_) (some 63) rfl (by kernel_rfl) (by kernel_rfl) (by kernel_rfl) (by kernel_rfl) (fun _ _ _ h => h) (Or.inl ⟨by kernel_rfl, ?_⟩) (by assumption) ?_
            case refine_2 => (intro w hSw; (try dsimp only at hSw); go_simp; (try rw [if_neg (by omega)]); try with_reducible rfl)
            try simp only [Act.put, List.setIfInBounds_toArray, List.set_cons_zero, List.set_cons_succ]
            refine take_to (i := 6) (oi := _) (v := ?_) (some 64) rfl (by kernel_rfl) (by kernel_rfl) (by kernel_rfl) (by kernel_rfl) (fun _ _ _ h => h) (Or.inl ⟨by kernel_rfl, ?_⟩) (by assumption) ?_
            case refine_2 => (intro w hSw; (try dsimp only at hSw); go_simp; (try rw [if_neg (by omega)]); try with_reducible rfl)
            try simp only [Act.put, List.setIfInBounds_toArray, List.set_cons_zero, List.set_cons_succ]
            refine take_to (i := 7) (oi := _) (v := ?_) (some 65) rfl (by kernel_rfl) (by kernel_rfl) (by kernel_rfl) (by kernel_rfl) (fun _ _ _ h => h) (Or.inl ⟨by kernel_rfl, ?_⟩) (by assumption) ?_
            case refine_2 => (intro w hSw; (try dsimp only at hSw); have q0 := (HC _ hSw).out; have e2 := cell_at q0.1 2 _ rfl; have u0 := q0.2.1; have u1 := q0.2.2.1; have u2 := q0.2.2.2.1; have u3 := q0.2.2.2.2; clear q0; go_simp; (try rw [if_neg (by omega)]); try with_reducible rfl)
            try simp only [Act.put, List.setIfInBounds_toArray, List.set_cons_zero, List.set_cons_succ]
            refine take_to (i := 11) (oi := _) (v := ?_) (some 69) rfl (by kernel_rfl) (by kernel_rfl) (by kernel_rfl) (by kernel_rfl) (fun _ _ _ h => h) (Or.inl ⟨by kernel_rfl, ?_⟩) (by assumption) ?_
            case refine_2 => (intro w hSw; (try dsimp only at hSw); go_simp; (try rw [if_neg (by omega)]); try with_reducible rfl)
            try simp only [Act.put, List.setIfInBounds_toArray, List.set_cons_zero, List.set_cons_succ]
            refine take_to (i := 12) (oi := _) (v := ?_) (some 70) rfl (by kernel_rfl) (by kernel_rfl) (by kernel_rfl) (by kernel_rfl) (fun _ _ _ h => h) (Or.inl ⟨by kernel_rfl, ?_⟩) (by assumption) ?_
            case refine_2 => (intro w hSw; (try dsimp only at hSw); have q0 := (HC _ hSw).out; have e2 := cell_at q0.1 2 _ rfl; have u0 := q0.2.1; have u1 := q0.2.2.1; have u2 := q0.2.2.2.1; have u3 := q0.2.2.2.2; clear q0; go_simp; (try rw [if_neg (by omega)]); try with_reducible rfl)
            try simp only [Act.put, List.setIfInBounds_toArray, List.set_cons_zero, List.set_cons_succ]
            refine take_to (i := 13) (oi := _) (v := ?_) (some 71) rfl (by kernel_rfl) (by kernel_rfl) (by kernel_rfl) (by kernel_rfl) (fun _ _ _ h => h) (Or.inl ⟨by kernel_rfl, ?_⟩) (by assumption) ?_
            case refine_2 => (intro w hSw; (try dsimp only at hSw); go_simp; (try rw [if_neg (by omega)]); try with_reducible rfl)
            try simp only [Act.put, List.setIfInBounds_toArray, List.set_cons_zero, List.set_cons_succ]
            refine take_to (i := 14) (oi := _) (v := ?_) (some 72) rfl (by kernel_rfl) (by kernel_rfl) (by kernel_rfl) (by kernel_rfl) (fun _ _ _ h => h) (Or.inl ⟨by kernel_rfl, ?_⟩) (by assumption) ?_
            case refine_2 => (intro w hSw; (try dsimp only at hSw); go_simp; (try rw [if_neg (by omega)]); try with_reducible rfl)
            try simp only [Act.put, List.setIfInBounds_toArray, List.set_cons_zero, List.set_cons_succ]
            refine take_to (i := 15) (oi := _) (v := ?_) (some 73) rfl (by kernel_rfl) (by kernel_rfl) (by kernel_rfl) (by kernel_rfl) (fun _ _ _ h => h) (Or.inl ⟨by kernel_rfl, ?_⟩) (by assumption) ?_
            case refine_2 => (intro w hSw; (try dsimp only at hSw); go_simp; (try rw [if_neg (by omega)]); try with_reducible rfl)
            try simp only [Act.put, List.setIfInBounds_toArray, List.set_cons_zero, List.set_cons_succ]
            refine take_to (i := 16) (oi := _) (v := ?_) (some 74) rfl (by kernel_rfl) (by kernel_rfl) (by kernel_rfl) (by kernel_rfl) (fun _ _ _ h => h) (Or.inl ⟨by kernel_rfl, ?_⟩) (by assumption) ?_
            case refine_2 => (intro w hSw; (try dsimp only at hSw); have q0 := (HC _ hSw).out; have e2 := cell_at q0.1 2 _ rfl; have u0 := q0.2.1; have u1 := q0.2.2.1; have u2 := q0.2.2.2.1; have u3 := q0.2.2.2.2; clear q0; go_simp; (try rw [if_neg (by omega)]); try with_reducible rfl)
            try simp only [Act.put, List.setIfInBounds_toArray, List.set_cons_zero, List.set_cons_succ]
            refine wpAnyH_ready (rs := [8]) (by kernel_rfl) (by simp) ?_
            refine AllReadyH.cons (o := _) rfl (fun K hK => ?_) AllReadyH.nil
            go_simp
            refine (HIt _).out.mono ?_
            rintro e z1 ⟨rfl, hz1⟩
            try go_wp2_with fail
            refine hK.out _ _ (hHeld.then hz1) (fun hHeld => ?_)
            clear hK K
            try simp only [Act.put, List.setIfInBounds_toArray, List.set_cons_zero, List.set_cons_succ]
            refine take_to (i := 9) (oi := _) (v := ?_) (some 67) rfl (by kernel_rfl) (by kernel_rfl) (by kernel_rfl) (by kernel_rfl) (fun _ _ _ h => h) (Or.inl ⟨by kernel_rfl, ?_⟩) (by assumption) ?_
            case refine_2 => (intro w hSw; (try dsimp only at hSw); go_simp; (try rw [if_neg (by omega)]); try with_reducible rfl)
            try simp only [Act.put, List.setIfInBounds_toArray, List.set_cons_zero, List.set_cons_succ]
            refine take_to (i := 10) (oi := _) (v := ?_) (some 68) rfl (by kernel_rfl) (by kernel_rfl) (by kernel_rfl) (by kernel_rfl) (fun _ _ _ h => h) (Or.inl ⟨by kernel_rfl, ?_⟩) (by assumption) ?_
            case refine_2 => (intro w hSw; (try dsimp only at hSw); go_simp; (try rw [if_neg (by omega)]); try with_reducible rfl)
            try simp only [Act.put, List.setIfInBounds_toArray, List.set_cons_zero, List.set_cons_succ]
            refine wpAnyH_ready (rs := [17]) (by kernel_rfl) (by simp) ?_
            refine AllReadyH.cons (o := _) rfl (fun K hK => ?_) AllReadyH.nil
            go_simp
            refine (HTx _ (HW.out.then hHeld)).out.mono ?_
            rintro e z2 ⟨rfl, hz2⟩
            try go_wp2_with fail
            refine hK.out _ _ (hHeld.then hz2) (fun hHeld => ?_)
            clear hK K
            try simp only [Act.put, List.setIfInBounds_toArray, List.set_cons_zero, List.set_cons_succ]
            refine take_to (i := 18) (oi := _) (v := ?_) (some 76) rfl (by kernel_rfl) (by kernel_rfl) (by kernel_rfl) (by kernel_rfl) (fun _ _ _ h => h) (Or.inl ⟨by kernel_rfl, ?_⟩) (by assumption) ?_
            case refine_2 => (intro w hSw; (try dsimp only at hSw); go_simp; (try rw [if_neg (by omega)]); try with_reducible rfl)
            try simp only [Act.put, List.setIfInBounds_toArray, List.set_cons_zero, List.set_cons_succ]
            refine take_to (i := 19) (oi := _) (v := ?_) (some 7) rfl (by kernel_rfl) (by kernel_rfl) (by kernel_rfl) (by kernel_rfl) (fun _ _ _ h => h) (Or.inl ⟨by kernel_rfl, ?_⟩) (by assumption) ?_
            case refine_2 => (intro w hSw; (try dsimp only at hSw); go_simp; (try rw [if_neg (by omega)]); try with_reducible rfl)
            try simp only [Act.put, List.setIfInBounds_toArray, List.set_cons_zero, List.set_cons_succ]
            refine wpAnyH_done (by kernel_rfl) ?_ _
            go_wp2_with fail
            go_roundw
            case rel => exact ⟨j + 1, by omega, by go_num, HNt.out.symm, HWb.out.then hHeld⟩
            case measure => simp [intOf]; omega
          · obtain rfl : j = ns.length := by omega
            have HXe : Hid (xv = ⟨(pre ++ Lib.joinTail [32] (ns.map (nrTxt T))).toArray⟩) := Lib.hid (by
              have h := HXv.out
              rw [List.take_of_length_le (by simp)] at h
              exact h.symm)
            cases has with
            | false =>
              go_wp2_with fail
              go_ret
              exact ⟨by rw [HR.out, HXe.out]; simp [strV], HW.out⟩
            | true =>
              have HObx := fun (wx : World) (kx : Kept Nob w wx) => HOb wx kx
              have hol := obText_len ⟨k, l⟩
              obtain ⟨tv, htv⟩ : ∃ u, (⟨(obText ⟨k, l⟩).toArray⟩ : ByteArray) = u := ⟨_, rfl⟩
              have hts : tv.size ≤ 5000 := by rw [← htv]; simpa [ByteArray.size] using hol
              unfold strV at HObx
              simp only [htv] at HObx
              have HF : Hid (strV res = .string (((xv ++ ⟨#[32, 91]⟩) ++ tv) ++ ⟨#[93]⟩)) := Lib.hid (by
                rw [HR.out, HXe.out, ← htv, show (⟨#[32, 91]⟩ : ByteArray) = ⟨[32, 91].toArray⟩ from rfl, show (⟨#[93]⟩ : ByteArray) = ⟨[93].toArray⟩ from rfl, strV_append, strV_append, strV_append]
                simp [strV])
              clear htv hol HR HXe HXv
              go_wp2_with fail
              refine (HObx _ HW.out).out.mono ?_
              rintro e w2 ⟨rfl, hk2⟩
              have HK2 := Lib.hid (HW.out.then hk2)
              clear hk2
              go_wp2_with fail
              go_ret
              exact ⟨by rw [HF.out]; rfl, HK2.out⟩

open Go.Proofs.YthjiobmglebmdaaGreatDoor.Geo Go.Proofs.YthjiobmglebmdaaGreatDoor.Txt

def InU64 (x : Int) : Prop := 0 ≤ x ∧ x < 18446744073709551616
noncomputable def frT (hi lo den : Int) : List UInt8 := frTxt (hi.toNat * 18446744073709551616 + lo.toNat) den.toNat
theorem frT_len {hi lo den : Int} (h1 : InU64 hi) (h2 : InU64 lo) (h3 : InU64 den) : (frT hi lo den).length ≤ 1000 := by
  unfold frT frTxt
  have hN : hi.toNat * 18446744073709551616 + lo.toNat < 340282366920938463463374607431768211456 := by
    have := h1.1; have := h1.2; have := h2.1; have := h2.2; omega
  have hd : den.toNat < 340282366920938463463374607431768211456 := by have := h3.1; have := h3.2; omega
  generalize hi.toNat * 18446744073709551616 + lo.toNat = N at *
  generalize den.toNat = d at *
  have a := dec_size (N / Nat.gcd d (N % d)) (Nat.lt_of_le_of_lt (Nat.div_le_self _ _) hN)
  have b := dec_size (d / Nat.gcd d (N % d)) (Nat.lt_of_le_of_lt (Nat.div_le_self _ _) hd)
  split
  · simp [wNone]
  · split
    · omega
    · simp; omega
theorem u64_nat {x : Int} (h : InU64 x) : (x.toNat : Int) = x := Int.toNat_of_nonneg h.1
theorem u64_lt {x : Int} (h : InU64 x) : x.toNat < 18446744073709551616 := by have := h.1; have := h.2; omega
theorem ratio_T (w : World) (hi lo den : Int) (h1 : InU64 hi) (h2 : InU64 lo) (h3 : InU64 den) (hE : Env w) :
    Calls Tryz.prog 29 #[.agg #[.int .u64 hi, .int .u64 lo, .int .u64 den]] w fun e w' => e = .returned (strV (frT hi lo den)) ∧ Kept Nob w w' := by
  have h := ratio_Text w hi.toNat lo.toNat den.toNat (u64_lt h1) (u64_lt h2) (u64_lt h3) hE
  rwa [u64_nat h1, u64_nat h2, u64_nat h3] at h
theorem ref_T (w : World) (hi lo den : Int) (h1 : InU64 hi) (h2 : InU64 lo) (h3 : InU64 den) :
    Calls Tryz.prog 31 #[.agg #[.int .u64 hi, .int .u64 lo, .int .u64 den]] w fun e w' => e = .returned (strV (frT hi lo den)) ∧ Kept Nob w w' := by
  have h := ref_TextDist w hi.toNat lo.toNat den.toNat (u64_lt h1) (u64_lt h2) (u64_lt h3)
  rwa [u64_nat h1, u64_nat h2, u64_nat h3] at h
set_option maxRecDepth 100000 in
set_option maxHeartbeats 16000000 in
theorem answers_any (w : World) (c k : Int) (vo vi vn vp : Value) (ops : List (List UInt8)) (ids : List Int) (ns : List Nr) (l : List Pt) (has : Bool) (F1 F2 F3 F4 : Nat → Prop)
    (h1 : Reads w vo (ops.map strV) F1) (h2 : Reads w vi (ids.map (.int .i64)) F2) (h3 : ReadsK 4 w vn ns.length (nrCells ns) F3) (h4 : PtsAt w vp l F4) (hE : Env w)
    (hc : InI64 c) (hi : ∀ n ∈ ids, InI64 n) (hn : ∀ n ∈ ns, InI64 n.id) (hu : ∀ n ∈ ns, InU64 n.hi ∧ InU64 n.lo ∧ InU64 n.den) :
    Calls Tryz.prog 3 #[.agg #[.int .i64 c, vi, vn, .int .i64 k, vp, .bool has], vo] w (RetTrue w) := by
  obtain ⟨oa, oc, rfl, -⟩ := h1.shape
  obtain ⟨ia, ic, rfl, -⟩ := h2.shape
  obtain ⟨na, nc, rfl, -⟩ := h3.shape
  obtain ⟨pa, pc, rfl⟩ := h4.shape
  have HAw := fun (wx : World) (kx : Kept Nob w wx) => Lib.hid (sc_awake wx (hE.kept kx))
  have HE := Lib.hid hE
  have e1 : (ops.map strV).length = ops.length := by simp
  have e2 : (ids.map (Value.int .i64)).length = ids.length := by simp
  rw [e1, e2]
  rw [e1] at h1
  rw [e2] at h2
  have HH := Lib.hid (And.intro h1 (And.intro h2 (And.intro h3 h4)))
  have HIn := Lib.hid (And.intro hc (And.intro hi (And.intro hn hu)))
  clear h1 h2 h3 h4 hE hc hi hn hu e1 e2
  by_cases g1 : (50 : Int) < (ids.length : Int)
  · skip
    go_enter Tryz.func3, Tryz.ntmps3
    go_wp2_with fail
    refine (HAw _ (Kept.alloc Nob w _)).out.mono ?_
    rintro e w1 ⟨rfl, hk1⟩
    have HK := Lib.hid ((Kept.alloc Nob w _).then hk1)
    clear hk1
    go_wp2_with fail
    go_ret
    exact ⟨rfl, HK.out⟩
  by_cases g2 : (50 : Int) < (ns.length : Int)
  · skip
    go_enter Tryz.func3, Tryz.ntmps3
    go_wp2_with fail
    refine (HAw _ (Kept.alloc Nob w _)).out.mono ?_
    rintro e w1 ⟨rfl, hk1⟩
    have HK := Lib.hid ((Kept.alloc Nob w _).then hk1)
    clear hk1
    go_wp2_with fail
    go_ret
    exact ⟨rfl, HK.out⟩
  by_cases g3 : (70 : Int) < (l.length : Int)
  · skip
    go_enter Tryz.func3, Tryz.ntmps3
    go_wp2_with fail
    refine (HAw _ (Kept.alloc Nob w _)).out.mono ?_
    rintro e w1 ⟨rfl, hk1⟩
    have HK := Lib.hid ((Kept.alloc Nob w _).then hk1)
    clear hk1
    go_wp2_with fail
    go_ret
    exact ⟨rfl, HK.out⟩
  by_cases g4 : (10 : Int) < (ops.length : Int)
  · skip
    go_enter Tryz.func3, Tryz.ntmps3
    go_wp2_with fail
    refine (HAw _ (Kept.alloc Nob w _)).out.mono ?_
    rintro e w1 ⟨rfl, hk1⟩
    have HK := Lib.hid ((Kept.alloc Nob w _).then hk1)
    clear hk1
    go_wp2_with fail
    go_ret
    exact ⟨rfl, HK.out⟩
  have HOa := fun (hb : ∀ x ∈ ops, x.length ≤ 100) (wx : World) (kx : Kept Nob w wx) => Lib.hid (script_Answer wx c k _ _ _ _ ops ids ns l has F1 F2 F3 F4 frT (HH.out.1.kept kx (fun _ _ f => f)) (HH.out.2.1.kept kx (fun _ _ f => f)) (HH.out.2.2.1.kept kx (fun _ _ f => f)) (HH.out.2.2.2.nob kx) (HE.out.kept kx) (by omega) (fun x hx => by have := hb x hx; omega) (by omega) (by omega) (by omega) HIn.out.1 HIn.out.2.1 HIn.out.2.2.1
    (fun n hn => frT_len (HIn.out.2.2.2 n hn).1 (HIn.out.2.2.2 n hn).2.1 (HIn.out.2.2.2 n hn).2.2) (fun n hn wy ky => ratio_T wy n.hi n.lo n.den (HIn.out.2.2.2 n hn).1 (HIn.out.2.2.2 n hn).2.1 (HIn.out.2.2.2 n hn).2.2 ((HE.out.kept kx).kept ky)))
  have HOb := fun (hb : ∀ x ∈ ops, x.length ≤ 100) (wx : World) (kx : Kept Nob w wx) => Lib.hid (ref_Say wx c k _ _ _ _ ops ids ns l has F1 F2 F3 F4 frT (HH.out.1.kept kx (fun _ _ f => f)) (HH.out.2.1.kept kx (fun _ _ f => f)) (HH.out.2.2.1.kept kx (fun _ _ f => f)) (HH.out.2.2.2.nob kx) (by omega) (fun x hx => by have := hb x hx; omega) (by omega) (by omega) (by omega) HIn.out.1 HIn.out.2.1 HIn.out.2.2.1
    (fun n hn => frT_len (HIn.out.2.2.2 n hn).1 (HIn.out.2.2.2 n hn).2.1 (HIn.out.2.2.2 n hn).2.2) (fun n hn wy _ => ref_T wy n.hi n.lo n.den (HIn.out.2.2.2 n hn).1 (HIn.out.2.2.2 n hn).2.1 (HIn.out.2.2.2 n hn).2.2))
  obtain ⟨tv, htv⟩ : ∃ u, (⟨(ansText frT c ops ids ns ⟨k, l⟩ has).toArray⟩ : ByteArray) = u := ⟨_, rfl⟩
  simp only [strV] at HOa HOb
  simp only [htv] at HOa HOb
  clear htv
  go_enter Tryz.func3, Tryz.ntmps3
  go_wp2_with fail
  go_loopw [5] (fun i wr => ∃ j : Nat, j ≤ ops.length ∧ i = .int .i64 j ∧ (∀ x ∈ ops.take j, x.length ≤ 100) ∧ Kept Nob (w.alloc (.cells #[.int .i64 c, .slice ia ids.length ic, .slice na ns.length nc, .int .i64 k, .slice pa l.length pc, .bool has] 28)) wr) (fun i _ => ops.length - (intOf i).toNat)
  case atStart => exact ⟨0, Nat.zero_le _, rfl, by simp, Kept.refl _ _⟩
  case round =>
    obtain ⟨j, hj, rfl, hall, hw⟩ := hrel
    have HWb := Lib.hid hw
    have HW := Lib.hid ((Kept.alloc Nob w _).then hw)
    have HAl := Lib.hid hall
    have bb := new1 hw
    have d0 := cell_at bb 0 _ rfl
    have d1 := cell_at bb 1 _ rfl
    have d2 := cell_at bb 2 _ rfl
    have d3 := cell_at bb 3 _ rfl
    have d4 := cell_at bb 4 _ rfl
    have d5 := cell_at bb 5 _ rfl
    have HBB := Lib.hid bb
    clear hw hall bb
    by_cases hlt : j < ops.length
    · have hx : (ops.map strV)[j]? = some (strV ops[j]) := by rw [List.getElem?_map, List.getElem?_eq_getElem hlt]; rfl
      obtain ⟨b, ov, rfl, hb, -, c0⟩ := (HH.out.1.kept HW.out (fun _ _ f => f)).at' hx
      have HTk : Hid (ops.take (j + 1) = ops.take j ++ [ops[j]]) := Lib.hid (List.take_succ_eq_append_getElem hlt)
      clear hx
      generalize ops[j] = x at *
      obtain ⟨xv, hxv⟩ : ∃ u, (⟨x.toArray⟩ : ByteArray) = u := ⟨_, rfl⟩
      have hxs : xv.size = x.length := by rw [← hxv]; simp [ByteArray.size]
      unfold strV at c0
      rw [hxv] at c0
      clear hxv
      by_cases hb100 : (100 : Int) < (xv.size : Int)
      · have HX := Lib.hid hxs
        clear hxs
        go_wp2_with fail
        refine (HAw _ HW.out).out.mono ?_
        rintro e w1 ⟨rfl, hk1⟩
        have HK := Lib.hid (HW.out.then hk1)
        clear hk1
        go_wp2_with fail
        go_ret
        exact ⟨rfl, HK.out⟩
      · have HX : Hid (x.length ≤ 100) := Lib.hid (by omega)
        clear hxs
        go_wp2_with fail
        go_roundw
        case rel =>
          refine ⟨j + 1, by omega, by go_num, fun y hy => ?_, HWb.out⟩
          rw [HTk.out] at hy
          simp at hy
          rcases hy with hy | rfl
          · exact HAl.out y hy
          · exact HX.out
        case measure => simp [intOf]; omega
    · obtain rfl : j = ops.length := by omega
      have hb : ∀ x ∈ ops, x.length ≤ 100 := fun x hx => HAl.out x (by rw [List.take_length]; exact hx)
      have HOa2 := fun wx kx => HOa hb wx kx
      have HOb2 := fun wx kx => HOb hb wx kx
      clear HOa HOb HAl
      go_wp2_with fail
      have HC7 := fun (W : World) (kx : Kept Nob (wr.alloc (.cells #[.int .i64 c, .slice oa ops.length oc, .slice ia ids.length ic, .slice na ns.length nc, .int .i64 k, .slice pa l.length pc, .bool has] 33)) W) => Lib.hid (new1 kx)
      have HC0 := fun (W : World) (kx : Kept Nob (wr.alloc (.cells #[.int .i64 c, .slice oa ops.length oc, .slice ia ids.length ic, .slice na ns.length nc, .int .i64 k, .slice pa l.length pc, .bool has] 33)) W) => Lib.hid (((((Kept.alloc Nob wr _).then kx).block w.heap.size (Array.getElem?_eq_some_iff.1 HBB.out).1 (fun f => f))).trans HBB.out)
      refine wp_region_held_drew (S := (fun W => Kept Nob (wr.alloc (.cells #[.int .i64 c, .slice oa ops.length oc, .slice ia ids.length ic, .slice na ns.length nc, .int .i64 k, .slice pa l.length pc, .bool has] 33)) W)) (by kernel_rfl) ?_ (fun hHeld => ?_)
      · first | exact Kept.refl _ _ | exact Kept.drew _ _
      refine take_to (i := 0) (oi := _) (v := ?_) (some 55) rfl (by kernel_rfl) (by kernel_rfl) (by kernel_rfl) (by kernel_rfl) (fun _ _ _ h => h) (Or.inl ⟨by kernel_rfl, ?_⟩) (by assumption) ?_
      case refine_2 => (intro w hSw; (try dsimp only at hSw); have b0 := (HC7 _ hSw).out; have cc0 := cell_at b0 0 _ rfl; have cc1 := cell_at b0 1 _ rfl; have cc2 := cell_at b0 2 _ rfl; have cc3 := cell_at b0 3 _ rfl; have cc4 := cell_at b0 4 _ rfl; have cc5 := cell_at b0 5 _ rfl; have cc6 := cell_at b0 6 _ rfl; clear b0; go_simp; try with_reducible rfl)
      try simp only [Act.put, List.setIfInBounds_toArray, List.set_cons_zero, List.set_cons_succ]
      refine take_to (i := 2) (oi := _) (v := ?_) (some 57) rfl (by kernel_rfl) (by kernel_rfl) (by kernel_rfl) (by kernel_rfl) (fun _ _ _ h => h) (Or.inl ⟨by kernel_rfl, ?_⟩) (by assumption) ?_
      case refine_2 => (intro w hSw; (try dsimp only at hSw); have b0 := (HC0 _ hSw).out; have cc0 := cell_at b0 0 _ rfl; have cc1 := cell_at b0 1 _ rfl; have cc2 := cell_at b0 2 _ rfl; have cc3 := cell_at b0 3 _ rfl; have cc4 := cell_at b0 4 _ rfl; have cc5 := cell_at b0 5 _ rfl; clear b0; go_simp; try with_reducible rfl)
      try simp only [Act.put, List.setIfInBounds_toArray, List.set_cons_zero, List.set_cons_succ]
      refine take_to (i := 3) (oi := _) (v := ?_) (some 58) rfl (by kernel_rfl) (by kernel_rfl) (by kernel_rfl) (by kernel_rfl) (fun _ _ _ h => h) (Or.inl ⟨by kernel_rfl, ?_⟩) (by assumption) ?_
      case refine_2 => (intro w hSw; (try dsimp only at hSw); go_simp; try with_reducible rfl)
      try simp only [Act.put, List.setIfInBounds_toArray, List.set_cons_zero, List.set_cons_succ]
      refine wpAnyH_ready (rs := [1]) (by kernel_rfl) (by simp) ?_
      refine AllReadyH.cons (o := _) rfl (fun K hK => ?_) AllReadyH.nil
      go_simp
      refine (HOa2 _ ((HW.out.then (Kept.alloc Nob wr _)).then hHeld)).out.mono ?_
      rintro e x1 ⟨rfl, hz1⟩
      try go_wp2_with fail
      refine hK.out _ _ (hHeld.then hz1) (fun hHeld => ?_)
      clear hK K
      try simp only [Act.put, List.setIfInBounds_toArray, List.set_cons_zero, List.set_cons_succ]
      refine wpAnyH_ready (rs := [4]) (by kernel_rfl) (by simp) ?_
      refine AllReadyH.cons (o := _) rfl (fun K hK => ?_) AllReadyH.nil
      go_simp
      refine (HOb2 _ ((HW.out.then (Kept.alloc Nob wr _)).then hHeld)).out.mono ?_
      rintro e x2 ⟨rfl, hz2⟩
      try go_wp2_with fail
      refine hK.out _ _ (hHeld.then hz2) (fun hHeld => ?_)
      clear hK K
      try simp only [Act.put, List.setIfInBounds_toArray, List.set_cons_zero, List.set_cons_succ]
      refine take_to (i := 5) (oi := _) (v := ?_) (some 60) rfl (by kernel_rfl) (by kernel_rfl) (by kernel_rfl) (by kernel_rfl) (fun _ _ _ h => h) (Or.inl ⟨by kernel_rfl, ?_⟩) (by assumption) ?_
      case refine_2 => (intro w hSw; (try dsimp only at hSw); go_simp; try with_reducible rfl)
      try simp only [Act.put, List.setIfInBounds_toArray, List.set_cons_zero, List.set_cons_succ]
      refine take_to (i := 6) (oi := _) (v := ?_) (some 61) rfl (by kernel_rfl) (by kernel_rfl) (by kernel_rfl) (by kernel_rfl) (fun _ _ _ h => h) (Or.inl ⟨by kernel_rfl, ?_⟩) (by assumption) ?_
      case refine_2 => (intro w hSw; (try dsimp only at hSw); go_simp; try with_reducible rfl)
      try simp only [Act.put, List.setIfInBounds_toArray, List.set_cons_zero, List.set_cons_succ]
      refine wpAnyH_ready (rs := [7]) (by kernel_rfl) (by simp) ?_
      refine AllReadyH.cons (o := _) rfl (fun K hK => ?_) AllReadyH.nil
      go_simp
      refine (HAw _ ((HW.out.then (Kept.alloc Nob wr _)).then hHeld)).out.mono ?_
      rintro e x3 ⟨rfl, hz3⟩
      try go_wp2_with fail
      refine hK.out _ _ (hHeld.then hz3) (fun hHeld => ?_)
      clear hK K
      try simp only [Act.put, List.setIfInBounds_toArray, List.set_cons_zero, List.set_cons_succ]
      refine take_to (i := 8) (oi := _) (v := ?_) (some 63) rfl (by kernel_rfl) (by kernel_rfl) (by kernel_rfl) (by kernel_rfl) (fun _ _ _ h => h) (Or.inl ⟨by kernel_rfl, ?_⟩) (by assumption) ?_
      case refine_2 => (intro w hSw; (try dsimp only at hSw); go_simp; try with_reducible rfl)
      try simp only [Act.put, List.setIfInBounds_toArray, List.set_cons_zero, List.set_cons_succ]
      refine take_to (i := 9) (oi := _) (v := ?_) (some 4) rfl (by kernel_rfl) (by kernel_rfl) (by kernel_rfl) (by kernel_rfl) (fun _ _ _ h => h) (Or.inl ⟨by kernel_rfl, ?_⟩) (by assumption) ?_
      case refine_2 => (intro w hSw; (try dsimp only at hSw); go_simp; try with_reducible rfl)
      try simp only [Act.put, List.setIfInBounds_toArray, List.set_cons_zero, List.set_cons_succ]
      refine wpAnyH_done (by kernel_rfl) ?_ _
      go_wp2_with fail
      go_ret
      exact ⟨by first | rfl | simp, ((HW.out.then (Kept.alloc Nob wr _)).then hHeld)⟩
end Go.Proofs.YthjiobmglebmdaaGreatDoor
