/- The log: parted. -/
import Derived.Test.YtcclbaphdblcfaaDoorPgWal3
namespace Go.Proofs.YtcclbaphdblcfaaDoor
open Go.RowKit

theorem CopRel.drewN {w : World} {xss : List (List Value)} {k : Nat} {v : Value} {wr : World} (h : CopRel w xss k v wr) (n : Nat) : CopRel w xss k v (wr.drewN n) := by
  obtain ⟨b, cap, vs, h1, h2, h3, h4, h5⟩ := h
  exact ⟨b, cap, vs, h1, h2, h3.kept (Kept.drewN Nob wr n) (fun _ _ f => f), h4.kept (Kept.drewN Nob wr n) (fun _ _ f => f), h5.then (Kept.drewN Nob wr n)⟩
theorem CopRel.stepOf {w wr w1 w2 : World} {xss : List (List Value)} {k : Nat} {b : Option Addr} {cap : Nat} {vs : List Value} (hk : k < xss.length) {x : List Value} (hx : x = xss[k]) (hl : vs.length = k) (hrow : Own wr 47 (.slice b k cap) vs (From w.heap.size)) (hrows : RowsAt wr 5 vs (xss.take k) (From w.heap.size))
    (hw : Kept Nob w wr) {b1 : Option Addr} {n1 cap1 : Nat} (ho1 : Own w1 5 (.slice b1 n1 cap1) x (From wr.heap.size)) (h1 : Kept Nob wr w1)
    {g : Nat} {cap2 : Nat} (ho2 : Own w2 47 (.slice (some ⟨g, 0, none⟩) (vs.length + 1) cap2) (vs ++ [.slice b1 n1 cap1]) (fun x => (Value.slice b k cap).ownBlock = some x ∨ (w1.alloc (.cells #[.slice b1 n1 cap1] 47)).heap.size ≤ x))
    (h2 : Kept (fun x => (Value.slice b k cap).ownBlock = some x) (w1.alloc (.cells #[.slice b1 n1 cap1] 47)) w2) : CopRel w xss (k + 1) (.slice (some ⟨g, 0, none⟩) (vs.length + 1) cap2) w2 := by
  subst hx
  exact CopRel.step hk hl hrow hrows hw ho1 h1 ho2 h2
/-- a reslice from a place on, whatever the capacity -/
theorem Reads.from' {w : World} {b o l c : Nat} {xs : List Value} {F : Nat → Prop} (h : Reads w (.slice (some ⟨b, o, none⟩) l c) xs F) (m : Nat) (hm : m ≤ xs.length) : Reads w (.slice (some ⟨b, o + m, none⟩) (l - m) (c - m)) (xs.drop m) F := by
  by_cases h0 : m < xs.length
  · exact h.dropped m h0
  · have hl := h.len
    have e : xs.drop m = [] := List.drop_of_length_le (by omega)
    exact .inl ⟨e, some ⟨b, o + m, none⟩, c - m, by rw [show l - m = 0 from by omega], fun h => by cases h⟩

theorem Reads.take' {w : World} {b o l c : Nat} {xs : List Value} {F : Nat → Prop} (h : Reads w (.slice (some ⟨b, o, none⟩) l c) xs F) (m : Nat) (hm : m ≤ xs.length) {ys : List Value} (hy : xs.take m = ys) : Reads w (.slice (some ⟨b, o, none⟩) m c) ys F := by
  subst hy
  by_cases h0 : 0 < xs.length
  · exact h.take m hm h0
  · have e : xs.take m = [] := by rw [List.eq_nil_of_length_eq_zero (by omega : xs.length = 0)]; simp
    exact .inl ⟨e, some ⟨b, o, none⟩, c, by rw [show m = 0 from by omega], fun h => by cases h⟩
theorem pack_drop {rs : List (List Value)} {k : Nat} (h : k < rs.length) : Wal.pack (rs.drop k) = Wal.head rs[k].length ++ rs[k] ++ Wal.pack (rs.drop (k + 1)) := by
  rw [List.drop_eq_getElem_cons h]; rfl
theorem len_or (n : Nat) (h : n ≤ 1200) : bits .or .i64 ((n : Int) % 256) ((n : Int) / 256 * 256) = (n : Int) := by
  have e : ((n : Int) / 256 * 256) = ((n / 256 * 256 : Nat) : Int) := by simp
  have e' : ((n : Int) % 256) = ((n % 256 : Nat) : Int) := by simp
  rw [e, e', bits_or_i64_nat _ _ (by omega) (by omega)]
  congr 1
  have h1 : n % 256 < 2 ^ 8 := by omega
  rw [Nat.or_comm, show n / 256 * 256 = 2 ^ 8 * (n / 256) from by omega, ← Nat.two_pow_add_eq_or_of_lt h1]
  omega

def sliceLen (v : Value) : Nat := match v with | .slice _ n _ => n | _ => 0
/-- behind 'parted' that is well -/
def RetParted (w : World) (rs : List (List Value)) (en : Ending) (w' : World) : Prop :=
  ∃ b cap vs, en = .returned (.tuple #[.slice b rs.length cap, .bool true]) ∧ vs.length = rs.length ∧ Own w' 47 (.slice b rs.length cap) vs (From w.heap.size) ∧ RowsAt w' 5 vs rs (From w.heap.size) ∧ Kept Nob w w'

set_option maxRecDepth 100000 in
set_option maxHeartbeats 4000000 in
theorem parted_any (w : World) (v : Value) (rs : List (List Value)) (F : Nat → Prop) (hv : Reads w v (Wal.pack rs) F) (hrs : ∀ r ∈ rs, Wal.Rec r) (hn : rs.length ≤ 1000000) (hF : ∀ j, F j → j < w.heap.size) :
    Calls Tryd.prog 46 #[v] w (RetParted w rs) := by
  have HRS := Lib.hid hrs
  have HW := Lib.hid (Wal.weight_le 1200 rs (fun r h => (hrs r h).1))
  have HR0 : Hid (Reads w v (Wal.pack (rs.drop 0)) F ∧ CopRel w rs 0 (.slice none 0 0) w) := ⟨by simpa using hv, none, 0, [], rfl, rfl, Own.nil _ _ _, RowsAt.nil _ _ _, Kept.refl _ _⟩
  clear hv hrs
  go_enter Tryd.func46, Tryd.ntmps46
  go_wp2
  go_loopw [0, 2] (fun b o wr => ∃ k : Nat, k ≤ rs.length ∧ Reads wr b (Wal.pack (rs.drop k)) F ∧ CopRel w rs k o wr) (fun b _ _ => sliceLen b)
  case atStart => exact ⟨0, Nat.zero_le _, HR0.out.1, HR0.out.2⟩
  case round =>
    clear HR0
    obtain ⟨k, hk, hb, hC⟩ := hrel
    by_cases hlt : k < rs.length
    · have hrec := HRS.out rs[k] (List.getElem_mem hlt)
      have hpk := pack_drop hlt
      obtain ⟨q, hq⟩ : ∃ q, q = Wal.pack (rs.drop (k + 1)) := ⟨_, rfl⟩
      rw [← hq] at hpk
      obtain ⟨ba, bc, rfl, -⟩ := hb.shape
      obtain ⟨bb, bo, rfl, -, hcap, -, -⟩ := hb.some' (by rw [hpk]; simp [Wal.head])
      have hlen : (Wal.pack (rs.drop k)).length = 2 + rs[k].length + q.length := by rw [hpk]; simp [Wal.head]; omega
      have hwt : q.length ≤ 1000000 * 1202 := by
        rw [hq, Wal.pack_length]
        have h1 : Wal.weight (rs.drop (k + 1)) ≤ Wal.weight rs := by
          conv => rhs; rw [← List.take_append_drop (k + 1) rs, Wal.weight_append]
          omega
        have h2 := HW.out
        have h3 : rs.length * 1202 ≤ 1000000 * 1202 := Nat.mul_le_mul_right _ hn
        omega
      have hcell := hb
      rw [hpk] at hcell
      obtain ⟨_, _, x0, he0, hx0, hc0, -⟩ := hcell.cell (i := 0) (by simp [Wal.head])
      obtain ⟨_, _, x1, he1, hx1, hc1, -⟩ := hcell.cell (i := 1) (by simp [Wal.head])
      simp only [Option.some.injEq, Addr.mk.injEq, and_true] at he0 he1
      obtain ⟨rfl, rfl⟩ := he0
      obtain ⟨rfl, rfl⟩ := he1
      simp [Wal.head] at hx0 hx1
      subst hx0 hx1
      rw [hpk] at hb
      rw [hlen] at hcap
      have hb' : Reads wr (.slice (some ⟨bb, bo, none⟩) (2 + rs[k].length + q.length) bc) (Wal.head rs[k].length ++ rs[k] ++ q) F := by
        have e : (Wal.head rs[k].length ++ rs[k] ++ q).length = 2 + rs[k].length + q.length := by simp [Wal.head]; omega
        rw [← e]; exact hb
      rw [hlen]
      simp only [Nat.add_zero] at hc0
      have HB := Lib.hid hb'
      have HC := Lib.hid hC
      have HRec := Lib.hid hrec
      have HQ := Lib.hid hq
      have hr12 := hrec.1
      have HOR := Lib.hid (len_or rs[k].length hr12)
      obtain ⟨r, hr⟩ : ∃ r, r = rs[k] := ⟨_, rfl⟩
      have HRR := Lib.hid hr
      rw [← hr] at HB HRec hr12 HOR hcap hc0 hc1 ⊢
      have HR2 : Hid (Reads wr (.slice (some ⟨bb, bo + 2, none⟩) (r.length + q.length) (bc - 2)) (r ++ q) F) := by
        have h := HB.out.from' 2 (by simp [Wal.head])
        have e1 : 2 + r.length + q.length - 2 = r.length + q.length := by omega
        rw [e1] at h
        refine Lib.hid ?_
        simpa [Wal.head] using h
      have HR2e : bc = 2 → Hid (Reads wr (.slice (some ⟨bb, bo, none⟩) 0 0) (r ++ q) F) := fun hc => by
        refine Lib.hid (.inl ⟨?_, some ⟨bb, bo, none⟩, 0, rfl, fun h => by cases h⟩)
        exact List.eq_nil_of_length_eq_zero (by rw [List.length_append]; omega)
      clear hb hb' hcell hC hrec hpk hlen hq hr
      have hcap3 : 2 + r.length ≤ bc := by omega
      have e2 : 2 + r.length + q.length - 2 = r.length + q.length := by omega
      have e4 : r.length + q.length - r.length = q.length := by omega
      have e4 : r.length + q.length - r.length = q.length := by omega
      have e4 : r.length + q.length - r.length = q.length := by omega
      by_cases hc2 : bc = 2
      · subst hc2
        obtain rfl : r = [] := List.eq_nil_of_length_eq_zero (by omega)
        obtain rfl : q = [] := List.eq_nil_of_length_eq_zero (by simp at hcap; omega)
        clear HR2e e2 e4 hwt
        have HX := Lib.hid ((show Reads wr (.slice (some ⟨bb, bo, none⟩) 0 0) [] F from .inl ⟨rfl, some ⟨bb, bo, none⟩, 0, rfl, fun h => by cases h⟩))
        have HFin := Lib.hid ((show Reads wr (.slice (some ⟨bb, bo, none⟩) 0 0) [] F from .inl ⟨rfl, some ⟨bb, bo, none⟩, 0, rfl, fun h => by cases h⟩))
        have HR1 := Lib.hid HRec.out
        go_wp2_with fail
        go_quiet (fail)
        rw [show bits .or .i64 0 0 = 0 from rfl]
        have kq := Kept.drewN Nob wr nq
        have hcl := clone_bytes (wr.drewN nq) _ [] F (HX.out.kept kq (fun _ _ f => f)) HRec.out.2 (by have := HRec.out.1; omega)
        have HCl := Lib.hid hcl
        have HCq := Lib.hid (HC.out.drewN nq)
        clear kq hcl HC
        obtain ⟨ob, oc, vs', ov, hl', hrow, hrows, hw⟩ := HCq.out
        subst ov
        have HL' := Lib.hid hl'
        have HRow := Lib.hid hrow
        have HRows := Lib.hid hrows
        have HWw := Lib.hid hw
        clear hl' hrow hrows hw HCq
        go_wp2_with (first
          | (go_at_call 36; refine HCl.out.mono ?_; rintro e w1 ⟨b1, cap1, rfl, ho1, hk1, hn1⟩; have HO1 := Lib.hid ho1; have HK1 := Lib.hid hk1; clear ho1 hk1 hn1)
          | (at_builtin; refine wpList_append1_pg rfl _ _ 34 rfl tRows (.slice ob k oc) vs' (.slice b1 0 cap1) (From w.heap.size) ⟨w1.heap.size, 0, none⟩ 1 rfl rfl ((HRow.out.kept HK1.out (fun _ _ f => f)).alloc _) (by simp) rfl (Nat.le_refl _) rfl (by have := HL'.out; omega) ?_; intro g2 cap2 w2 ho2 hk2; have HO2 := Lib.hid ho2; have HK2 := Lib.hid hk2; clear ho2 hk2))
        have hst : CopRel w rs (k + 1) (.slice (some ⟨g2, 0, none⟩) (vs'.length + 1) cap2) w2 := CopRel.stepOf hlt HRR.out HL'.out HRow.out HRows.out HWw.out HO1.out HK1.out HO2.out HK2.out
        have hfin := ((((HFin.out.kept (Kept.drewN Nob wr nq) (fun _ _ f => f)).kept HK1.out (fun _ _ f => f)).alloc (.cells #[.slice b1 0 cap1] 47)).kept HK2.out (fun j hj h => by have := hF j hj; have := HRow.out.2 j h; simp [From] at this; omega))

        have HST := Lib.hid hst
        have HFF := Lib.hid hfin
        clear hst hfin
        go_roundw
        case rel => exact ⟨k + 1, by omega, by rw [← HQ.out]; exact HFF.out, HST.out⟩
        case measure => first | (simp [sliceLen]; done) | (simp [sliceLen]; omega)
      · have hc2' : 2 < bc := by omega
        by_cases hcn : bc - 2 = r.length
        · obtain rfl : bc = r.length + 2 := by omega
          obtain rfl : q = [] := List.eq_nil_of_length_eq_zero (by omega)
          clear HR2e e2 e4 hwt hcn
          have HX := Lib.hid ((show Reads wr (.slice (some ⟨bb, bo + 2, none⟩) r.length r.length) r F from by simpa using HR2.out))
          have HFin := Lib.hid ((show Reads wr (.slice (some ⟨bb, bo + 2, none⟩) 0 0) [] F from .inl ⟨rfl, some ⟨bb, bo + 2, none⟩, 0, rfl, fun h => by cases h⟩))
          have HR1 := Lib.hid HRec.out
          go_wp2_with fail
          go_quiet (fail)
          rw [HOR.out]
          have kq := Kept.drewN Nob wr nq
          have hcl := clone_bytes (wr.drewN nq) _ r F (HX.out.kept kq (fun _ _ f => f)) HRec.out.2 (by have := HRec.out.1; omega)
          have HCl := Lib.hid hcl
          have HCq := Lib.hid (HC.out.drewN nq)
          clear kq hcl HC
          obtain ⟨ob, oc, vs', ov, hl', hrow, hrows, hw⟩ := HCq.out
          subst ov
          have HL' := Lib.hid hl'
          have HRow := Lib.hid hrow
          have HRows := Lib.hid hrows
          have HWw := Lib.hid hw
          clear hl' hrow hrows hw HCq
          go_wp2_with (first
            | (go_at_call 36; refine HCl.out.mono ?_; rintro e w1 ⟨b1, cap1, rfl, ho1, hk1, hn1⟩; have HO1 := Lib.hid ho1; have HK1 := Lib.hid hk1; clear ho1 hk1 hn1)
            | (at_builtin; refine wpList_append1_pg rfl _ _ 34 rfl tRows (.slice ob k oc) vs' (.slice b1 r.length cap1) (From w.heap.size) ⟨w1.heap.size, 0, none⟩ 1 rfl rfl ((HRow.out.kept HK1.out (fun _ _ f => f)).alloc _) (by simp) rfl (Nat.le_refl _) rfl (by have := HL'.out; omega) ?_; intro g2 cap2 w2 ho2 hk2; have HO2 := Lib.hid ho2; have HK2 := Lib.hid hk2; clear ho2 hk2))
          have hst : CopRel w rs (k + 1) (.slice (some ⟨g2, 0, none⟩) (vs'.length + 1) cap2) w2 := CopRel.stepOf hlt HRR.out HL'.out HRow.out HRows.out HWw.out HO1.out HK1.out HO2.out HK2.out
          have hfin := ((((HFin.out.kept (Kept.drewN Nob wr nq) (fun _ _ f => f)).kept HK1.out (fun _ _ f => f)).alloc (.cells #[.slice b1 r.length cap1] 47)).kept HK2.out (fun j hj h => by have := hF j hj; have := HRow.out.2 j h; simp [From] at this; omega))

          have HST := Lib.hid hst
          have HFF := Lib.hid hfin
          clear hst hfin
          go_roundw
          case rel => exact ⟨k + 1, by omega, by rw [← HQ.out]; exact HFF.out, HST.out⟩
          case measure => first | (simp [sliceLen]; done) | (simp [sliceLen]; omega)
        · have HX := Lib.hid (HR2.out.take' (ys := r) r.length (by simp) (by simp))
          have HFin := Lib.hid ((show Reads wr (.slice (some ⟨bb, bo + 2 + r.length, none⟩) q.length (bc - 2 - r.length)) q F from by have h := HR2.out.from' r.length (by simp); have e5 : r.length + q.length - r.length = q.length := (by omega); rw [e5] at h; simpa using h))
          have HR1 := Lib.hid HRec.out
          go_wp2_with fail
          go_quiet (fail)
          rw [HOR.out]
          have kq := Kept.drewN Nob wr nq
          have hcl := clone_bytes (wr.drewN nq) _ r F (HX.out.kept kq (fun _ _ f => f)) HRec.out.2 (by have := HRec.out.1; omega)
          have HCl := Lib.hid hcl
          have HCq := Lib.hid (HC.out.drewN nq)
          clear kq hcl HC
          obtain ⟨ob, oc, vs', ov, hl', hrow, hrows, hw⟩ := HCq.out
          subst ov
          have HL' := Lib.hid hl'
          have HRow := Lib.hid hrow
          have HRows := Lib.hid hrows
          have HWw := Lib.hid hw
          clear hl' hrow hrows hw HCq
          go_wp2_with (first
            | (go_at_call 36; refine HCl.out.mono ?_; rintro e w1 ⟨b1, cap1, rfl, ho1, hk1, hn1⟩; have HO1 := Lib.hid ho1; have HK1 := Lib.hid hk1; clear ho1 hk1 hn1)
            | (at_builtin; refine wpList_append1_pg rfl _ _ 34 rfl tRows (.slice ob k oc) vs' (.slice b1 r.length cap1) (From w.heap.size) ⟨w1.heap.size, 0, none⟩ 1 rfl rfl ((HRow.out.kept HK1.out (fun _ _ f => f)).alloc _) (by simp) rfl (Nat.le_refl _) rfl (by have := HL'.out; omega) ?_; intro g2 cap2 w2 ho2 hk2; have HO2 := Lib.hid ho2; have HK2 := Lib.hid hk2; clear ho2 hk2))
          have hst : CopRel w rs (k + 1) (.slice (some ⟨g2, 0, none⟩) (vs'.length + 1) cap2) w2 := CopRel.stepOf hlt HRR.out HL'.out HRow.out HRows.out HWw.out HO1.out HK1.out HO2.out HK2.out
          have hfin := ((((HFin.out.kept (Kept.drewN Nob wr nq) (fun _ _ f => f)).kept HK1.out (fun _ _ f => f)).alloc (.cells #[.slice b1 r.length cap1] 47)).kept HK2.out (fun j hj h => by have := hF j hj; have := HRow.out.2 j h; simp [From] at this; omega))

          have HST := Lib.hid hst
          have HFF := Lib.hid hfin
          clear hst hfin
          go_roundw
          case rel => exact ⟨k + 1, by omega, by rw [← HQ.out]; exact HFF.out, HST.out⟩
          case measure => first | (simp [sliceLen]; done) | (simp [sliceLen]; omega)
    · have hkl : k = rs.length := by omega
      obtain ⟨ob, oc, vs', rfl, hl', hrow, hrows, hw⟩ := hC
      have hb0 : (Wal.pack (rs.drop k)).length = 0 := by rw [hkl, List.drop_length]; rfl
      obtain ⟨ba, bc, rfl, -⟩ := hb.shape
      rw [hb0]
      rw [hkl, List.take_length] at hrows
      rw [hkl] at hrow hl' ⊢
      have HRow := Lib.hid hrow
      have HRows := Lib.hid hrows
      have HWw := Lib.hid hw
      have HL' := Lib.hid hl'
      clear hb hb0 hrow hrows hw hl' hkl hlt hk
      go_wp2_with fail
      go_ret2
      exact ⟨ob, oc, vs', rfl, HL'.out, HRow.out, HRows.out, HWw.out⟩
end Go.Proofs.YtcclbaphdblcfaaDoor
