/- The document's own pool: Flush. -/
import Derived.Test.YthppgchmamonnaaGreatDoorPq30
import Derived.Test.YthppgchmamonnaaGreatDoorPq32
namespace Go.Proofs.YthppgchmamonnaaGreatDoor
open Go.RowKit
def DHd.ripe (mark : Int) (x : DHd) : Bool := x.dirty && decide (x.lsn ≤ mark)
def DPl.ripeTo (Q : DPl) : Nat → List DHd
  | 0 => []
  | j + 1 => DPl.ripeTo Q j ++ match Q.find (j : Nat) with | some x => if x.ripe Q.mark then [x] else [] | Option.none => []
theorem DPl.ripeTo_len (Q : DPl) : ∀ j, (Q.ripeTo j).length ≤ j
  | 0 => Nat.le_refl _
  | j + 1 => by
    have := DPl.ripeTo_len Q j
    rw [DPl.ripeTo, List.length_append]
    split
    · split <;> simp <;> omega
    · simp; omega
theorem DPl.ripeTo_mem (Q : DPl) : ∀ (j : Nat) (x : DHd), x ∈ Q.ripeTo j → x ∈ Q.all ∧ x.ripe Q.mark = true ∧ x.n < j
  | 0, x, h => by cases h
  | j + 1, x, h => by
    rw [DPl.ripeTo] at h
    rcases List.mem_append.1 h with h | h
    · have := DPl.ripeTo_mem Q j x h
      exact ⟨this.1, this.2.1, by omega⟩
    · split at h
      · rename_i y hy
        split at h
        · rename_i hr
          rw [List.mem_singleton] at h
          subst h
          have := DPl.find_mem hy
          exact ⟨this.1, hr, by omega⟩
        · cases h
      · cases h
theorem DPl.ripeTo_apart (Q : DPl) : ∀ j, (Q.ripeTo j).Pairwise fun x y => x.n ≠ y.n
  | 0 => List.Pairwise.nil
  | j + 1 => by
    rw [DPl.ripeTo]
    refine List.pairwise_append.2 ⟨DPl.ripeTo_apart Q j, ?_, fun x hx y hy e => ?_⟩
    · split
      · split
        · exact List.pairwise_singleton _ _
        · exact List.Pairwise.nil
      · exact List.Pairwise.nil
    · have h1 := (DPl.ripeTo_mem Q j x hx).2.2
      split at hy
      · rename_i z hz
        split at hy
        · rw [List.mem_singleton] at hy
          subst hy
          have := (DPl.find_mem hz).2
          omega
        · cases hy
      · cases hy
def Dsk.wrStep (r : Dsk × Nat) (kp : Nat × PgM) : Dsk × Nat := if r.2 = 0 then r.1.wr (8 * kp.1) (bytesOf kp.2) 8 else r
def Dsk.wrL (d : Dsk) (l : List (Nat × PgM)) : Dsk × Nat := l.foldl Dsk.wrStep (d, 0)
theorem Dsk.wrL_take (d : Dsk) (l : List (Nat × PgM)) (j : Nat) (h : j < l.length) : d.wrL (l.take (j + 1)) = Dsk.wrStep (d.wrL (l.take j)) l[j] := by
  unfold Dsk.wrL
  rw [List.take_succ_eq_append_getElem h, List.foldl_append]; rfl
theorem Dsk.wrL_stop : ∀ (l : List (Nat × PgM)) (r : Dsk × Nat), r.2 ≠ 0 → l.foldl Dsk.wrStep r = r
  | [], _, _ => rfl
  | a :: l, r, h => by
    rw [List.foldl_cons, show Dsk.wrStep r a = r from by unfold Dsk.wrStep; rw [if_neg h]]
    exact Dsk.wrL_stop l r h
theorem Dsk.wrL_stays {d : Dsk} {l : List (Nat × PgM)} {j : Nat} (h : (d.wrL (l.take j)).2 ≠ 0) : d.wrL l = d.wrL (l.take j) := by
  have : d.wrL l = (l.drop j).foldl Dsk.wrStep (d.wrL (l.take j)) := by
    unfold Dsk.wrL
    rw [← List.foldl_append, List.take_append_drop]
  rw [this, Dsk.wrL_stop _ _ h]
theorem Dsk.wrL_ops (d : Dsk) (l : List (Nat × PgM)) : ∀ j, j ≤ l.length → (d.wrL (l.take j)).1.ops ≤ d.ops + 8 * j ∧ (d.wrL (l.take j)).1.good = d.good := by
  intro j
  induction j with
  | zero => intro _; exact ⟨by simp [Dsk.wrL], rfl⟩
  | succ j ih =>
    intro hj
    obtain ⟨h1, h2⟩ := ih (by omega)
    rw [Dsk.wrL_take d l j (by omega)]
    generalize d.wrL (l.take j) = r at *
    have q1 := Dsk.wr_ops r.1 (8 * l[j].1) (bytesOf l[j].2) 8
    have q2 := Dsk.wr_good r.1 (8 * l[j].1) (bytesOf l[j].2) 8
    unfold Dsk.wrStep
    generalize r.1.wr (8 * l[j].1) (bytesOf l[j].2) 8 = s at *
    split
    · exact ⟨by omega, q2.trans h2⟩
    · exact ⟨by omega, h2⟩
def DPl.cleanStep (Q : DPl) (x : DHd) : DPl := { Q.set { x with dirty := false } with wrote := Q.wrote + 1 }
def DPl.cleaned (Q : DPl) (l : List DHd) : DPl := l.foldl DPl.cleanStep Q
theorem DPl.cleaned_take (Q : DPl) (l : List DHd) (j : Nat) (h : j < l.length) : Q.cleaned (l.take (j + 1)) = DPl.cleanStep (Q.cleaned (l.take j)) l[j] := by
  unfold DPl.cleaned
  rw [List.take_succ_eq_append_getElem h, List.foldl_append]; rfl
theorem DPl.cleaned_facts (Q : DPl) (l : List DHd) : ∀ j, j ≤ l.length → (Q.cleaned (l.take j)).wrote = Q.wrote + j ∧ ∀ x ∈ Q.all, (∀ y ∈ l.take j, y.n ≠ x.n) → x ∈ (Q.cleaned (l.take j)).all := by
  intro j
  induction j with
  | zero => intro _; exact ⟨rfl, fun x hx _ => hx⟩
  | succ j ih =>
    intro hj
    obtain ⟨h1, h2⟩ := ih (by omega)
    rw [DPl.cleaned_take Q l j (by omega)]
    refine ⟨by show (Q.cleaned (l.take j)).wrote + 1 = _; omega, fun x hx hy => ?_⟩
    rw [List.take_succ_eq_append_getElem (by omega)] at hy
    have hx' := h2 x hx fun y hm => hy y (List.mem_append.2 (.inl hm))
    have hne := hy l[j] (List.mem_append.2 (.inr (by simp)))
    exact List.mem_map.2 ⟨x, hx', if_neg fun e => hne e.symm⟩
theorem DPoolAt.clean {w : World} {m md : Nat} {Q : DPl} {S : Nat → Prop} (h : DPoolAt w m md Q S) {x : DHd} (hx : x ∈ Q.all) :
    DPoolAt ((w.setCell ⟨x.g, 3, none⟩ (.bool false)).setCell ⟨m, 8, none⟩ (.int .i64 ((Q.wrote : Int) + 1))) m md (Q.cleanStep x) S ∧ Kept (fun y => y = m ∨ S y) w ((w.setCell ⟨x.g, 3, none⟩ (.bool false)).setCell ⟨m, 8, none⟩ (.int .i64 ((Q.wrote : Int) + 1))) := by
  have hq := h.held x hx
  have k1 := kept1 w x.g 3 (.bool false)
  have P1 := h.inner hx { x with dirty := false } rfl rfl k1 ((heap_set w x.g 3 _ _ (.bool false) hq.1).trans rfl)
  have k2 := kept1 (w.setCell ⟨x.g, 3, none⟩ (.bool false)) m 8 (.int .i64 ((Q.wrote : Int) + 1))
  exact ⟨P1.turn k2 rfl fun hv hb => (heap_set _ m 8 _ _ (.int .i64 ((Q.wrote : Int) + 1)) hb).trans rfl, (k1.mono fun y _ e => .inr (by rw [show y = x.g from e]; exact hq.2)).trans k2 fun y _ e => .inl e⟩
def DFl (w : World) (m md : Nat) (S DR : Nat → Prop) (Q : DPl) (d : Dsk) (w' : World) : Prop :=
  ∃ R', DPoolAt w' m md Q S ∧ DocAt w' md d R' ∧ Grows DR w.heap.size R' ∧ Disj S R' ∧ ¬ R' m ∧ Kept (fun x => x = m ∨ x = md ∨ S x) w w'
def DPl.pairs (con : Nat → PgM) (l : List DHd) : List (Nat × PgM) := l.map fun x => (x.n, con x.pg)
def RetDFlush (w : World) (m md : Nat) (S DR : Nat → Prop) (con : Nat → PgM) (Q : DPl) (d : Dsk) (e : Ending) (w' : World) : Prop :=
  (Q.ripeTo Q.pages = [] → e = .returned (.int .i64 0) ∧ DFl w m md S DR Q d w') ∧
  (Q.ripeTo Q.pages ≠ [] → (d.wrL (DPl.pairs con (Q.ripeTo Q.pages))).2 ≠ 0 → e = .returned (.int .i64 9) ∧ DFl w m md S DR Q (d.wrL (DPl.pairs con (Q.ripeTo Q.pages))).1 w') ∧
  (Q.ripeTo Q.pages ≠ [] → (d.wrL (DPl.pairs con (Q.ripeTo Q.pages))).2 = 0 → (d.wrL (DPl.pairs con (Q.ripeTo Q.pages))).1.sync.2 ≠ 0 → e = .returned (.int .i64 9) ∧ DFl w m md S DR Q (d.wrL (DPl.pairs con (Q.ripeTo Q.pages))).1.sync.1 w') ∧
  (Q.ripeTo Q.pages ≠ [] → (d.wrL (DPl.pairs con (Q.ripeTo Q.pages))).2 = 0 → (d.wrL (DPl.pairs con (Q.ripeTo Q.pages))).1.sync.2 = 0 → e = .returned (.int .i64 0) ∧ DFl w m md S DR (Q.cleaned (Q.ripeTo Q.pages)) (d.wrL (DPl.pairs con (Q.ripeTo Q.pages))).1.sync.1 w')
def DWrotes (w1 : World) (md : Nat) (DR : Nat → Prop) (con : Nat → PgM) (d : Dsk) (l : List DHd) (j : Nat) (wr : World) : Prop :=
  (d.wrL (DPl.pairs con (l.take j))).2 = 0 ∧ ∃ R', DocAt wr md (d.wrL (DPl.pairs con (l.take j))).1 R' ∧ Grows DR w1.heap.size R' ∧ Kept (Just md) w1 wr
theorem DPl.pairs_take (con : Nat → PgM) (l : List DHd) (j : Nat) : DPl.pairs con (l.take j) = (DPl.pairs con l).take j := by
  unfold DPl.pairs; rw [List.map_take]
theorem DPl.pairs_len (con : Nat → PgM) (l : List DHd) : (DPl.pairs con l).length = l.length := by simp [DPl.pairs]
set_option maxRecDepth 100000 in
set_option maxHeartbeats 8000000 in
theorem doc_flush (w : World) (m md : Nat) (Q : DPl) (S : Nat → Prop) (h : DPoolAt w m md Q S) (hS : Under S w.heap.size) (hlen : Q.all.length ≤ 100) (d : Dsk) (DR : Nat → Prop) (hD : DocAt w md d DR) (hSD : Disj S DR) (hDm : ¬ DR m) (hSm : ¬ S md) (hmd : m ≠ md)
    (con : Nat → PgM) (hpages : ∀ x ∈ Q.all, ∃ R, DPgAt w x.pg (con x.pg) R ∧ x.pg ≠ m ∧ x.pg ≠ md ∧ ¬ R m ∧ ¬ R md ∧ Sized (con x.pg).ss ∧ usedOf (con x.pg).ss ≤ 512 ∧ 0 ≤ (con x.pg).id ∧ (con x.pg).id < 4294967296 ∧ 8 * x.n + 8 ≤ d.good.length)
    (hops : d.ops ≤ 1000000000) (hwr : Q.wrote ≤ 1000000000000) (hpg : Q.pages ≤ 2000) :
    Calls Tryz.prog 55 #[.pointer (some ⟨m, 0, none⟩)] w (RetDFlush w m md S DR con Q d) := by
  have HP := Lib.hid h
  have HS := Lib.hid hS
  have HD := Lib.hid hD
  have HPg := Lib.hid hpages
  obtain ⟨hv, T, hb, -, -⟩ := h.head
  have HB := Lib.hid hb
  have hml := h.lt
  have hmost : d.good.length ≤ 8192 := hD.wf.most
  have HF := fun (wx : World) (kx : Kept Nob w wx) (k : Int) => Lib.hid (doc_find wx m md Q S (h.nob kx) (by omega) k)
  have HR0 : Hid (LeftRel w (Q.ripeTo 0) (.slice none 0 0) w) := Lib.hid ⟨none, 0, rfl, Own.nil _ _ _, Kept.refl _ _⟩
  clear h hS hD hpages hb
  go_enter Tryz.func55, Tryz.ntmps55
  go_wp2
  go_loopw [3, 4, 5] (fun v i hx wr => ∃ j : Nat, j ≤ Q.pages ∧ i = .int .i64 j ∧ LeftRel w (Q.ripeTo j) v wr) (fun _ i _ _ => Q.pages - (intOf i).toNat)
  case atStart => exact ⟨0, Nat.zero_le _, rfl, HR0.out⟩
  case round =>
    clear HR0
    obtain ⟨j, hj, rfl, b, c, rfl, ho, hk⟩ := hrel
    have HO := Lib.hid ho
    have HK := Lib.hid hk
    have hbw := (hk.block m hml (fun f => f)).trans HB.out
    have c1 : wr.cell? ⟨m, 1, none⟩ = some (.int .i64 Q.pages) := cell_at hbw 1 _ rfl
    have c4 : wr.cell? ⟨m, 4, none⟩ = some (.int .i64 Q.mark) := cell_at hbw 4 _ rfl
    clear ho hk hbw
    by_cases hlt : j < Q.pages
    · have HFj := HF wr HK.out (j : Int)
      have hll := DPl.ripeTo_len Q j
      have HSt : Hid (Q.ripeTo (j + 1) = Q.ripeTo j ++ match Q.find (j : Nat) with | some x => if x.ripe Q.mark then [x] else [] | Option.none => []) := Lib.hid rfl
      have HR : Hid (LeftRel w (Q.ripeTo j) (.slice b (Q.ripeTo j).length c) wr) := Lib.hid ⟨b, c, rfl, HO.out, HK.out⟩
      cases hf : Q.find (j : Nat) with
      | none =>
        rw [hf] at HFj HSt
        simp only [Option.map_none, ptrOf] at HFj
        have HN : Hid (∀ W, Kept Nob wr W → LeftRel w (Q.ripeTo (j + 1)) (.slice b (Q.ripeTo j).length c) W) := Lib.hid fun W q => by
          rw [HSt.out, List.append_nil]
          exact ⟨b, c, rfl, HO.out.kept q (fun _ _ f => f), HK.out.then q⟩
        clear hf HSt
        generalize (Q.ripeTo j).length = zl at *
        go_upto_region 6 with (go_at_call 86; (with_reducible refine HFj.out.mono ?_); rintro e w' ⟨rfl, rfl⟩)
        go_quiet (fail)
        have HNq := Lib.hid (HN.out _ (Kept.drewN Nob wr nq))
        clear c1 c4
        go_wp2_with fail
        go_roundw
        case rel => exact ⟨j + 1, by omega, by go_num, HNq.out⟩
        case measure => simp [intOf]; omega
      | some x =>
        have hxb := ((HP.out.nob HK.out).held x (DPl.find_mem hf).1).1
        have d3 : wr.cell? ⟨x.g, 3, none⟩ = some (.bool x.dirty) := cell_at hxb 3 _ rfl
        have d4 : wr.cell? ⟨x.g, 4, none⟩ = some (.int .i64 x.lsn) := cell_at hxb 4 _ rfl
        rw [hf] at HFj HSt
        simp only [Option.map_some, ptrOf] at HFj
        clear hf hxb
        by_cases hrp : x.ripe Q.mark = true
        · have HE : Hid (Q.ripeTo (j + 1) = Q.ripeTo j ++ [x]) := Lib.hid (by rw [HSt.out]; simp only [hrp, if_true])
          have hdy : x.dirty = true := by unfold DHd.ripe at hrp; simp only [Bool.and_eq_true] at hrp; exact hrp.1
          have hls : decide (x.lsn ≤ Q.mark) = true := by unfold DHd.ripe at hrp; simp only [Bool.and_eq_true] at hrp; exact hrp.2
          rw [hdy] at d3
          have hsz : ((ptrsOf (Q.ripeTo j)).length + 1) * (8 + 1) ≤ 140737488355328 := by rw [ptrsOf_len]; omega
          clear hdy hrp HSt HR
          generalize hzs : Q.ripeTo j = zs at *
          clear hzs
          go_upto_region 6 with (go_at_call 86; (with_reducible refine HFj.out.mono ?_); rintro e w' ⟨rfl, rfl⟩)
          go_quiet (fail)
          have HKq := Lib.hid (Kept.drewN Nob wr nq)
          have HOq := Lib.hid (HO.out.kept HKq.out (fun _ _ f => f))
          clear d3 d4 hls c4 c1
          generalize wr.drewN nq = wq at *
          go_wp2_with (at_builtin; refine wpList_append1_pg rfl _ _ 115 rfl tHelds (.slice b zs.length c) (ptrsOf zs) (.pointer (some ⟨x.g, 0, none⟩)) _ ⟨wq.heap.size, 0, none⟩ 1 rfl rfl (HOq.out.alloc _) (by simp) rfl (Nat.le_refl _) rfl hsz ?_; intro g2 cap2 w4 ho4 hk4; rw [ptrsOf_len] at ho4 ⊢; have HO4 := Lib.hid ho4; have HK4 := Lib.hid hk4; clear ho4 hk4)
          have HN : Hid (LeftRel w (Q.ripeTo (j + 1)) (.slice (some ⟨g2, 0, none⟩) (zs.length + 1) cap2) w4) := by
            have hl : (zs ++ [x]).length = zs.length + 1 := by simp
            refine Lib.hid ⟨some ⟨g2, 0, none⟩, cap2, by rw [HE.out, hl], ?_, ?_⟩
            · rw [HE.out, show ptrsOf (zs ++ [x]) = ptrsOf zs ++ [.pointer (some ⟨x.g, 0, none⟩)] from by simp [ptrsOf]]
              refine HO4.out.mono fun k _ hk => ?_
              rcases hk with hk | hk
              · exact HO.out.2 k hk
              · have := (HK.out.then HKq.out).size; simp at hk; show _ ≤ _; omega
            · exact ((HK.out.then HKq.out).then (Kept.alloc Nob wq _)).from (Nat.le_refl _) (HK4.out.mono fun k _ hk => HO.out.2 k hk)
          go_roundw
          case rel => exact ⟨j + 1, by omega, by go_num, HN.out⟩
          case measure => simp [intOf]; omega
        · have hrp : x.ripe Q.mark = false := by simpa using hrp
          have HN : Hid (∀ W, Kept Nob wr W → LeftRel w (Q.ripeTo (j + 1)) (.slice b (Q.ripeTo j).length c) W) := Lib.hid fun W q => by
            rw [HSt.out]
            simp only [hrp, Bool.false_eq_true, if_false, List.append_nil]
            exact ⟨b, c, rfl, HO.out.kept q (fun _ _ f => f), HK.out.then q⟩
          clear HSt HR
          generalize (Q.ripeTo j).length = zl at *
          cases hdy : x.dirty with
          | false =>
            rw [hdy] at d3
            clear hdy hrp
            go_upto_region 6 with (go_at_call 86; (with_reducible refine HFj.out.mono ?_); rintro e w' ⟨rfl, rfl⟩)
            go_quiet (fail)
            have HNq := Lib.hid (HN.out _ (Kept.drewN Nob wr nq))
            clear c1 c4 d3 d4
            go_wp2_with fail
            go_roundw
            case rel => exact ⟨j + 1, by omega, by go_num, HNq.out⟩
            case measure => simp [intOf]; omega
          | true =>
            have hls : decide (x.lsn ≤ Q.mark) = false := by unfold DHd.ripe at hrp; rw [hdy, Bool.true_and] at hrp; exact hrp
            rw [hdy] at d3
            clear hdy hrp
            go_upto_region 6 with (go_at_call 86; (with_reducible refine HFj.out.mono ?_); rintro e w' ⟨rfl, rfl⟩)
            go_quiet (fail)
            have HNq := Lib.hid (HN.out _ (Kept.drewN Nob wr nq))
            clear c1 c4 d3 d4 hls
            go_wp2_with fail
            go_roundw
            case rel => exact ⟨j + 1, by omega, by go_num, HNq.out⟩
            case measure => simp [intOf]; omega
    · obtain rfl : j = Q.pages := by omega
      have HZm : Hid (∀ x ∈ Q.ripeTo Q.pages, x ∈ Q.all) := Lib.hid fun x hx => (DPl.ripeTo_mem Q Q.pages x hx).1
      have HZa := Lib.hid (DPl.ripeTo_apart Q Q.pages)
      have hzl := DPl.ripeTo_len Q Q.pages
      have HRt : Hid (RetDFlush w m md S DR con Q d = RetDFlush w m md S DR con Q d) := Lib.hid rfl
      have HRet : Hid (∀ (zs : List DHd), zs = Q.ripeTo Q.pages → ∀ (e : Ending) (w' : World), ((zs = [] → e = .returned (.int .i64 0) ∧ DFl w m md S DR Q d w') ∧
          (zs ≠ [] → (d.wrL (DPl.pairs con zs)).2 ≠ 0 → e = .returned (.int .i64 9) ∧ DFl w m md S DR Q (d.wrL (DPl.pairs con zs)).1 w') ∧
          (zs ≠ [] → (d.wrL (DPl.pairs con zs)).2 = 0 → (d.wrL (DPl.pairs con zs)).1.sync.2 ≠ 0 → e = .returned (.int .i64 9) ∧ DFl w m md S DR Q (d.wrL (DPl.pairs con zs)).1.sync.1 w') ∧
          (zs ≠ [] → (d.wrL (DPl.pairs con zs)).2 = 0 → (d.wrL (DPl.pairs con zs)).1.sync.2 = 0 → e = .returned (.int .i64 0) ∧ DFl w m md S DR (Q.cleaned zs) (d.wrL (DPl.pairs con zs)).1.sync.1 w')) → RetDFlush w m md S DR con Q d e w') := Lib.hid fun zs hz e w' h => by subst hz; exact h
      have HRz := Lib.hid (HRet.out _ rfl)
      clear HRet HRt hlt hj c4
      generalize Q.ripeTo Q.pages = zs at *
      by_cases hz : zs = []
      · subst hz
        have hR : ∀ (e : Ending) (w' : World), (e = .returned (.int .i64 0) ∧ DFl w m md S DR Q d w') → RetDFlush w m md S DR con Q d e w' := fun e w' h => HRz.out e w' ⟨fun _ => h, fun h => absurd rfl h, fun h => absurd rfl h, fun h => absurd rfl h⟩
        have HRe := Lib.hid hR
        clear hR HRz
        go_wp2_with fail
        go_ret
        exact HRe.out _ _ ⟨rfl, DR, HP.out.nob HK.out, HD.out.kept HK.out (fun f => f) (fun _ _ f => f), Grows.refl _ _, hSD, hDm, HK.out.nob⟩
      · have hz1 : 1 ≤ zs.length := List.length_pos_iff.2 hz
        have hR : ∀ (e : Ending) (w' : World), (((d.wrL (DPl.pairs con zs)).2 ≠ 0 → e = .returned (.int .i64 9) ∧ DFl w m md S DR Q (d.wrL (DPl.pairs con zs)).1 w') ∧
          ((d.wrL (DPl.pairs con zs)).2 = 0 → (d.wrL (DPl.pairs con zs)).1.sync.2 ≠ 0 → e = .returned (.int .i64 9) ∧ DFl w m md S DR Q (d.wrL (DPl.pairs con zs)).1.sync.1 w') ∧
          ((d.wrL (DPl.pairs con zs)).2 = 0 → (d.wrL (DPl.pairs con zs)).1.sync.2 = 0 → e = .returned (.int .i64 0) ∧ DFl w m md S DR (Q.cleaned zs) (d.wrL (DPl.pairs con zs)).1.sync.1 w')) → RetDFlush w m md S DR con Q d e w' := fun e w' h => HRz.out e w' ⟨fun h => absurd h hz, fun _ => h.1, fun _ => h.2.1, fun _ => h.2.2⟩
        have HRe := Lib.hid hR
        have hzb : ((zs.length : Int) == 0) = false := by simp; omega
        have hzn : ¬ (zs.length : Int) = 0 := by omega
        have hzc : ¬ zs.length = 0 := by omega
        have HS0 : Hid (DWrotes wr md DR con d zs 0 wr) := Lib.hid ⟨rfl, DR, HD.out.kept HK.out (fun f => f) (fun _ _ f => f), Grows.refl _ _, Kept.refl _ _⟩
        have hPr := HP.out.nob HK.out
        have HPr := Lib.hid hPr
        have HOr := Lib.hid HO.out.reads
        have hmr : m < wr.heap.size := hPr.lt
        have HSr : Hid (∀ x, S x → x < wr.heap.size) := Lib.hid fun x hx => Nat.lt_of_lt_of_le (HS.out x hx) HK.out.size
        clear hR HRz hz HO hPr
        have HPgr : Hid (∀ x ∈ Q.all, ∃ R, DPgAt wr x.pg (con x.pg) R ∧ x.pg ≠ m ∧ x.pg ≠ md ∧ ¬ R m ∧ ¬ R md ∧ Sized (con x.pg).ss ∧ usedOf (con x.pg).ss ≤ 512 ∧ 0 ≤ (con x.pg).id ∧ (con x.pg).id < 4294967296 ∧ 8 * x.n + 8 ≤ d.good.length) := Lib.hid fun x hx => by
          obtain ⟨R, q1, q2⟩ := HPg.out x hx
          exact ⟨R, q1.kept HK.out (fun f => f) (fun _ _ f => f), q2⟩
        have hown : ∀ x, From w.heap.size x → x ≠ m ∧ ¬ S x := fun x hx => ⟨fun e => by have hx : w.heap.size ≤ x := hx; omega, fun s => by have hx : w.heap.size ≤ x := hx; have := HS.out x s; omega⟩
        have HOw := Lib.hid hown
        have hdl := HD.out.lt
        have HMd : Hid (∀ x, From w.heap.size x → x ≠ md) := Lib.hid fun x hx e => by have hx : w.heap.size ≤ x := hx; omega
        clear HPg HB hown hdl
        have HKa := Lib.hid HK.out
        clear HK
        generalize wr = wA at *
        go_wp2_with fail

        go_loopw [6] (fun i wy => ∃ j : Nat, j ≤ zs.length ∧ i = .int .i64 j ∧ DWrotes wA md DR con d zs j wy) (fun i _ => zs.length - (intOf i).toNat)
        case atStart => exact ⟨0, Nat.zero_le _, rfl, HS0.out⟩
        case round =>
          clear HS0
          obtain ⟨j, hj, rfl, hw0, R1, hd1, hg1, hk1⟩ := hrel
          have HW0 := Lib.hid hw0
          have HD1 := Lib.hid hd1
          have HG1 := Lib.hid hg1
          have HK1 := Lib.hid hk1
          have HOj := Lib.hid (HOr.out.kept hk1 (fun x hx e => HMd.out x hx e))
          have HPj := Lib.hid (HPr.out.kept hk1 hmd (fun x hx e => hSm (by rw [← show x = md from e]; exact hx)))
          clear hw0 hd1 hg1 hk1
          by_cases hlt : j < zs.length
          · obtain ⟨gb, go, u, rfl, hu, hc, -⟩ := HOj.out.cell (i := j) (by rw [ptrsOf_len]; exact hlt)
            obtain rfl : u = .pointer (some ⟨zs[j].g, 0, none⟩) := by
              rw [ptrsOf, List.getElem?_map, List.getElem?_eq_getElem hlt] at hu
              exact (Option.some.inj hu).symm
            have hxm := HZm.out _ (List.getElem_mem hlt)
            obtain ⟨R, q1, q2, q3, q4, q5, q6, q7, q8, q9, q10⟩ := HPgr.out _ hxm
            have hpo := Dsk.wrL_ops d (DPl.pairs con zs) j (by rw [DPl.pairs_len]; omega)
            rw [← DPl.pairs_take] at hpo
            have hst := Dsk.wrL_take d (DPl.pairs con zs) j (by rw [DPl.pairs_len]; exact hlt)
            rw [← DPl.pairs_take, ← DPl.pairs_take] at hst
            have hpj : (DPl.pairs con zs)[j]'(by rw [DPl.pairs_len]; exact hlt) = (zs[j].n, con zs[j].pg) := by simp [DPl.pairs]
            rw [hpj] at hst
            have hst2 : d.wrL (DPl.pairs con (zs.take (j + 1))) = (d.wrL (DPl.pairs con (zs.take j))).1.wr (8 * zs[j].n) (bytesOf (con zs[j].pg)) 8 := by rw [hst]; unfold Dsk.wrStep; rw [if_pos HW0.out]
            have hgd : zs[j].g ≠ md := fun e => hSm (by rw [← e]; exact (HPj.out.held _ hxm).2)
            have HWr := dpool_write wr m md Q S HPj.out zs[j] hxm (by omega) (con zs[j].pg) R ((q1.kept HK1.out q3 (fun y hy e => q5 (by rw [← show y = md from e]; exact hy)))) q6 q7 ⟨q8, q9⟩ _ R1 HD1.out hmd hgd (by rw [hpo.2]; exact q10) (by omega)
            rw [← hst2] at HWr
            have HWr := Lib.hid HWr
            have HCo : Hid ((d.wrL (DPl.pairs con (zs.take (j + 1)))).2 = 0 ∨ (d.wrL (DPl.pairs con (zs.take (j + 1)))).2 = 9) := Lib.hid (by
              rw [hst2]
              exact (Dsk.wr_code (by rw [HD1.out.wf.len]) (by rw [hpo.2]; exact q10) (bytesOf_length _ q7) 8 (by omega)).1)
            clear hst hst2 hpj hpo hu q1 q2 q3 q4 q5 q6 q7 q8 q9 q10 hgd hxm
            generalize zs[j] = x at *
            rcases HCo.out with hc0 | hc9
            · rw [hc0] at HWr
              have HC0 := Lib.hid hc0
              clear hc0 HCo
              go_wp2_with (go_at_call 87; (with_reducible refine HWr.out.mono ?_); rintro e w4 ⟨rfl, ⟨R2, hd2, hg2⟩, hk2⟩; have HN : Hid (DWrotes wA md DR con d zs (j + 1) w4) := (Lib.hid ⟨HC0.out, R2, hd2, HG1.out.trans hg2 HK1.out.size, HK1.out.trans' hk2⟩); clear hd2 hg2 hk2)
              go_roundw
              case rel => exact ⟨j + 1, by omega, by go_num, HN.out⟩
              case measure => simp [intOf]; omega
            · rw [hc9] at HWr
              have HW9 : Hid (d.wrL (DPl.pairs con zs) = d.wrL (DPl.pairs con (zs.take (j + 1))) ∧ (d.wrL (DPl.pairs con (zs.take (j + 1)))).2 = 9) := Lib.hid ⟨by
                rw [DPl.pairs_take] at hc9 ⊢
                exact Dsk.wrL_stays (by rw [hc9]; decide), hc9⟩
              clear hc9 HCo
              go_wp2_with (go_at_call 87; (with_reducible refine HWr.out.mono ?_); rintro e w4 ⟨rfl, ⟨R2, hd2, hg2⟩, hk2⟩; have HD2 := Lib.hid hd2; have HG2 := Lib.hid hg2; have HK2 := Lib.hid hk2; clear hd2 hg2 hk2)
              go_ret
              refine HRe.out _ _ ⟨fun _ => ⟨rfl, R2, ?_⟩, (fun h => by rw [HW9.out.1, HW9.out.2] at h; cases h), (fun h => by rw [HW9.out.1, HW9.out.2] at h; cases h)⟩
              rw [HW9.out.1]
              have kk : Kept (Just md) w w4 := HKa.out.nob.trans' (HK1.out.trans' HK2.out)
              have hgg : Grows DR w.heap.size R2 := fun x hx => by
                rcases HG2.out x hx with e | e
                · exact (HG1.out x e).imp (fun e => e) fun e => Nat.le_trans HKa.out.size e
                · exact .inr (Nat.le_trans (Nat.le_trans HKa.out.size HK1.out.size) e)
              exact ⟨HP.out.kept kk hmd (fun x hx e => hSm (by rw [← show x = md from e]; exact hx)), HD2.out, hgg, (hSD.symm.grows hgg HS.out).symm, fun e => (hgg m e).elim hDm (fun e => by omega), kk.mono fun x _ e => .inr (.inl e)⟩
          · have hje : j = zs.length := by omega
            subst hje
            rw [List.take_length] at HW0 HD1
            have hpo := Dsk.wrL_ops d (DPl.pairs con zs) zs.length (by rw [DPl.pairs_len]; exact Nat.le_refl _)
            rw [List.take_of_length_le (by rw [DPl.pairs_len]; exact Nat.le_refl _)] at hpo
            have hop : (d.wrL (DPl.pairs con zs)).1.ops < 9223372036854775807 := by omega
            have HSy := doc_sync_any wr md _ R1 HD1.out hop
            have HCo := Lib.hid (Dsk.sync_code (d.wrL (DPl.pairs con zs)).1)
            obtain ⟨hv2, T2, hb2, -, -⟩ := HPj.out.head
            have c0 : wr.cell? ⟨m, 0, none⟩ = some (.pointer (some ⟨md, 0, none⟩)) := cell_at hb2 0 _ rfl
            clear hb2 hpo hop
            rcases HCo.out with hs0 | hs9
            · rw [hs0] at HSy
              have HSy := Lib.hid HSy
              have HC0 := Lib.hid hs0
              clear hs0 HCo
              go_wp2_with (go_at_call 88; (with_reducible refine HSy.out.mono ?_); rintro e w4 ⟨rfl, ⟨R2, hd2, hg2⟩, hk2⟩; have HD2 := Lib.hid hd2; have HG2 := Lib.hid hg2; have HK2 := Lib.hid hk2; clear hd2 hg2 hk2)
              have kk4 : Kept (Just md) w w4 := HKa.out.nob.trans' (HK1.out.trans' HK2.out)
              have HP4 := Lib.hid (HP.out.kept kk4 hmd (fun x hx e => hSm (by rw [← show x = md from e]; exact hx)))
              have HKK := Lib.hid kk4
              have HO4 := Lib.hid (HOj.out.kept HK2.out (fun x hx e => HMd.out x hx e))
              have hgg : Grows DR w.heap.size R2 := fun x hx => by
                rcases HG2.out x hx with e | e
                · exact (HG1.out x e).imp (fun e => e) fun e => Nat.le_trans HKa.out.size e
                · exact .inr (Nat.le_trans (Nat.le_trans HKa.out.size HK1.out.size) e)
              have HGG := Lib.hid hgg
              have HQ0 : Hid (DPoolAt w4 m md (Q.cleaned (zs.take 0)) S ∧ Kept (fun y => y = m ∨ S y) w4 w4) := Lib.hid ⟨HP4.out, Kept.refl _ _⟩
              clear kk4 hgg HOj HPj HD1 HG1 HK1 c0 HSy HG2 HK2
              generalize w4 = wB at *
              go_loopw [7] (fun i wy => ∃ j : Nat, j ≤ zs.length ∧ i = .int .i64 j ∧ DPoolAt wy m md (Q.cleaned (zs.take j)) S ∧ Kept (fun y => y = m ∨ S y) wB wy) (fun i _ => zs.length - (intOf i).toNat)
              case atStart => exact ⟨0, Nat.zero_le _, rfl, HQ0.out.1, HQ0.out.2⟩
              case round =>
                clear HQ0
                obtain ⟨j, hj, rfl, hp1, hk1⟩ := hrel
                have HP1 := Lib.hid hp1
                have HK1 := Lib.hid hk1
                have HOj := Lib.hid (HO4.out.kept hk1 (fun x hx e => e.elim (HOw.out x hx).1 (HOw.out x hx).2))
                clear hp1 hk1
                by_cases hlt : j < zs.length
                · obtain ⟨gb, go, u, rfl, hu, hc, -⟩ := HOj.out.cell (i := j) (by rw [ptrsOf_len]; exact hlt)
                  obtain rfl : u = .pointer (some ⟨zs[j].g, 0, none⟩) := by
                    rw [ptrsOf, List.getElem?_map, List.getElem?_eq_getElem hlt] at hu
                    exact (Option.some.inj hu).symm
                  obtain ⟨hwj, hin⟩ := DPl.cleaned_facts Q zs j (by omega)
                  have hmem : zs[j] ∈ (Q.cleaned (zs.take j)).all := hin _ (HZm.out _ (List.getElem_mem hlt)) fun y hy e => by
                    obtain ⟨i, hi, hyi⟩ := List.getElem_of_mem hy
                    have hi' : i < j := by rw [List.length_take] at hi; omega
                    rw [List.getElem_take] at hyi
                    exact (List.pairwise_iff_getElem.1 HZa.out i j (by omega) hlt hi') (by rw [hyi]; exact e)
                  have HSt := Lib.hid (HP1.out.clean hmem)
                  have HSu := Lib.hid (DPl.cleaned_take Q zs j hlt)
                  obtain ⟨hv3, T3, hb3, -, -⟩ := HP1.out.head
                  have hxb := (HP1.out.held _ hmem).1
                  have hgm : m ≠ zs[j].g := fun e => HP1.out.noM (by rw [e]; exact (HP1.out.held _ hmem).2)
                  have d3 : wr.cell? ⟨zs[j].g, 3, none⟩ = some (.bool zs[j].dirty) := cell_at hxb 3 _ rfl
                  have e3 := frozen_at hxb 3
                  rw [hwj] at HSt hb3
                  have c8 : ∀ v, (wr.setCell ⟨zs[j].g, 3, none⟩ v).cell? ⟨m, 8, none⟩ = some (.int .i64 ((Q.wrote + j : Nat) : Int)) := fun v => (setCell_far hgm).trans (cell_at hb3 8 _ rfl)
                  have f8 : ∀ v, (wr.setCell ⟨zs[j].g, 3, none⟩ v).frozen? ⟨m, 8, none⟩ = false := fun v => frozen_at (((kept1 wr zs[j].g 3 v).block m HP1.out.lt hgm).trans hb3) 8
                  have hwb : Q.wrote + j ≤ 2000000000000 := by omega
                  clear hwj hin hmem hu hb3 hxb hgm
                  generalize zs[j] = x at *
                  generalize Q.wrote + j = wj at *
                  go_wp2_with fail
                  have HN : Hid (DPoolAt ((wr.setCell ⟨x.g, 3, none⟩ (.bool false)).setCell ⟨m, 8, none⟩ (.int .i64 ((wj : Int) + 1))) m md (Q.cleaned (zs.take (j + 1))) S ∧ Kept (fun y => y = m ∨ S y) wB ((wr.setCell ⟨x.g, 3, none⟩ (.bool false)).setCell ⟨m, 8, none⟩ (.int .i64 ((wj : Int) + 1)))) := Lib.hid (by
                    obtain ⟨s1, s2⟩ := HSt.out
                    rw [← HSu.out] at s1
                    exact ⟨s1, HK1.out.trans' s2⟩)
                  clear HSt HSu
                  go_roundw
                  case rel => exact ⟨j + 1, by omega, by go_num, HN.out.1, HN.out.2⟩
                  case measure => simp [intOf]; omega
                · have hje : j = zs.length := by omega
                  subst hje
                  rw [List.take_length] at HP1
                  go_wp2_with fail
                  go_ret
                  refine HRe.out _ _ ⟨fun h => absurd HW0.out h, fun _ h => absurd HC0.out h, fun _ _ => ⟨rfl, R2, HP1.out, ?_, HGG.out, (hSD.symm.grows HGG.out HS.out).symm, fun e => (HGG.out m e).elim hDm (fun e => by omega), ?_⟩⟩
                  · exact HD2.out.kept HK1.out (fun e => e.elim (fun e => hmd e.symm) hSm) (fun x hx e => e.elim (fun e => by rw [e] at hx; exact (HGG.out m hx).elim hDm (fun e => by omega)) (fun s => (hSD.symm.grows HGG.out HS.out) x hx s))
                  · exact (HKK.out.mono fun x _ e => .inr (.inl e)).trans HK1.out fun x _ e => e.elim .inl (fun e => .inr (.inr e))
            · rw [hs9] at HSy
              have HSy := Lib.hid HSy
              have HC9 := Lib.hid hs9
              clear hs9 HCo
              go_wp2_with (go_at_call 88; (with_reducible refine HSy.out.mono ?_); rintro e w4 ⟨rfl, ⟨R2, hd2, hg2⟩, hk2⟩; have HD2 := Lib.hid hd2; have HG2 := Lib.hid hg2; have HK2 := Lib.hid hk2; clear hd2 hg2 hk2)
              go_ret
              refine HRe.out _ _ ⟨fun h => absurd HW0.out h, fun _ _ => ⟨rfl, R2, ?_⟩, (fun _ h => by rw [HC9.out] at h; cases h)⟩
              have kk : Kept (Just md) w w4 := HKa.out.nob.trans' (HK1.out.trans' HK2.out)
              have hgg : Grows DR w.heap.size R2 := fun x hx => by
                rcases HG2.out x hx with e | e
                · exact (HG1.out x e).imp (fun e => e) fun e => Nat.le_trans HKa.out.size e
                · exact .inr (Nat.le_trans (Nat.le_trans HKa.out.size HK1.out.size) e)
              exact ⟨HP.out.kept kk hmd (fun x hx e => hSm (by rw [← show x = md from e]; exact hx)), HD2.out, hgg, (hSD.symm.grows hgg HS.out).symm, fun e => (hgg m e).elim hDm (fun e => by omega), kk.mono fun x _ e => .inr (.inl e)⟩
end Go.Proofs.YthppgchmamonnaaGreatDoor
