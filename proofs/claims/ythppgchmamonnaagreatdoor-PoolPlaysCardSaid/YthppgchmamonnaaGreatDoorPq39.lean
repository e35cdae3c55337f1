/- The document's own pool: Pin of a page that is not held, the walk. -/
import Derived.Test.YthppgchmamonnaaGreatDoorPq38
namespace Go.Proofs.YthppgchmamonnaaGreatDoor
open Go.RowKit
set_option maxRecDepth 100000 in
set_option maxHeartbeats 8000000 in
theorem dpool_pin_miss (w : World) (m md : Nat) (Q : DPl) (S : Nat → Prop) (h : DPoolAt w m md Q S) (hS : Under S w.heap.size) (hlen : Q.all.length ≤ 100) (d : Dsk) (DR : Nat → Prop) (hD : DocAt w md d DR) (hSD : Disj S DR) (hDm : ¬ DR m) (hSm : ¬ S md) (hmd : m ≠ md)
    (con : Nat → PgM) (hpages : ∀ x ∈ Q.all, ∃ R, DPgAt w x.pg (con x.pg) R ∧ x.pg ≠ m ∧ x.pg ≠ md ∧ ¬ R m ∧ ¬ R md ∧ Sized (con x.pg).ss ∧ usedOf (con x.pg).ss ≤ 512 ∧ 0 ≤ (con x.pg).id ∧ (con x.pg).id < 4294967296 ∧ 8 * x.n + 8 ≤ d.good.length ∧ x.last ≤ 1000000000000)
    (_hroom : Q.room ≤ 100) (hops : d.ops ≤ 100000000000) (hclock : Q.clock ≤ 1000000000000) (hwr : Q.wrote ≤ 1000000000000) (hrd : Q.reads ≤ 1000000000000) (k : Nat) (hk : k < Q.pages) (hk8 : 8 * k + 8 ≤ d.good.length) (hpg : Q.pages ≤ 2000) (hno : Q.find k = none) (hby : ∀ u ∈ Wal.flat (DPl.evictA con { Q with clock := Q.clock + 1 } d).1.now (8 * k) 8, ∃ n : Int, u = .int .u8 n ∧ 0 ≤ n ∧ n < 256) :
    Calls Tryz.prog 49 #[.pointer (some ⟨m, 0, none⟩), .int .i64 k] w (RetDMiss w m md S DR con Q d k) := by
  obtain ⟨hv, T, hb, hr, hT⟩ := h.head
  obtain ⟨a, c, rfl, -⟩ := hr.shape
  rw [DPl.ptrs_of, ptrsOf_len] at hb
  rw [DPl.ptrs_of, ptrsOf_len] at hr
  have HB := Lib.hid hb
  have HP := Lib.hid h
  have hml := h.lt
  have c1 : w.cell? ⟨m, 1, none⟩ = some (.int .i64 Q.pages) := cell_at hb 1 _ rfl
  have c5 : w.cell? ⟨m, 5, none⟩ = some (.int .i64 Q.clock) := cell_at hb 5 _ rfl
  have f5 := frozen_at hb 5
  have k1 := kept1 w m 5 (.int .i64 ((Q.clock : Int) + 1))
  have hb1 := heap_set w m 5 _ _ (.int .i64 ((Q.clock : Int) + 1)) hb
  have H1 : DSt w m md S DR { Q with clock := Q.clock + 1 } d (w.setCell ⟨m, 5, none⟩ (.int .i64 ((Q.clock : Int) + 1))) :=
    (DSt.start h hS hD hSD hDm hSm).turn hmd k1 rfl fun hv hb => (heap_set w m 5 _ _ (.int .i64 ((Q.clock : Int) + 1)) hb).trans rfl
  have HK1 := Lib.hid k1
  have HSt := Lib.hid H1
  have HF : Hid (Calls Tryz.prog 86 #[.pointer (some ⟨m, 0, none⟩), .int .i64 k] (w.setCell ⟨m, 5, none⟩ (.int .i64 ((Q.clock : Int) + 1))) fun e w' => e = .returned (.pointer none) ∧ (w.setCell ⟨m, 5, none⟩ (.int .i64 ((Q.clock : Int) + 1))) = w') := Lib.hid (by
    obtain ⟨S', R', q1, -⟩ := H1
    have := doc_find _ m md _ S' q1 (by show Q.all.length ≤ 1000; omega) k
    rw [show DPl.find { Q with clock := Q.clock + 1 } k = none from hno] at this
    exact this)
  have HB1 := Lib.hid hb1
  have HPg := Lib.hid hpages
  have HNk0 : Hid (∀ x ∈ Q.all, x.n ≠ k) := Lib.hid fun x hx e => by
    have := List.find?_eq_none.1 hno x hx
    simp [e] at this
  have HR1 : Hid (Reads (w.setCell ⟨m, 5, none⟩ (.int .i64 ((Q.clock : Int) + 1))) (.slice a Q.all.length c) (ptrsOf Q.all) T) := Lib.hid (hr.kept k1 fun x t e => h.noM (by rw [← show x = m from e]; exact (hT x t).1))
  have HPl1 : Hid (∀ x ∈ Q.all, (w.setCell ⟨m, 5, none⟩ (.int .i64 ((Q.clock : Int) + 1))).heap[x.g]? = some (.cells x.cells 153 (0, 0))) := Lib.hid fun x hx => by
    have hq := h.held x hx
    exact (k1.block x.g (Array.getElem?_eq_some_iff.1 hq.1).1 (fun e => h.noM (by rw [← show x.g = m from e]; exact hq.2))).trans hq.1
  clear h hb hr hT hS hD hSD hDm hSm hno hb1 k1 H1 hpages
  go_enter Tryz.func49, Tryz.ntmps49
  go_upto_region 5 with (go_at_call 86; (with_reducible refine HF.out.mono ?_); rintro e w' ⟨rfl, rfl⟩)
  clear c1 c5 f5 HF
  generalize w.setCell ⟨m, 5, none⟩ (.int .i64 ((Q.clock : Int) + 1)) = w1 at *
  have c3 : w1.cell? ⟨m, 3, none⟩ = some (.slice a Q.all.length c) := cell_at HB1.out 3 _ rfl
  have c2 : w1.cell? ⟨m, 2, none⟩ = some (.int .i64 Q.room) := cell_at HB1.out 2 _ rfl
  go_upto_region 10 with fail
  go_quiet (fail)
  clear c3 c2
  go_upto_if 73 with fail
  obtain ⟨cd, hcd⟩ : ∃ cd, decide (Q.room ≤ Q.all.length) = cd := ⟨_, rfl⟩
  rw [hcd]
  have HCd := Lib.hid hcd
  clear hcd
  have HBy := Lib.hid hby
  clear hby
  go_cut [7, 8, 9] (fun s7 s8 s9 wx => (DPl.evictA con { Q with clock := Q.clock + 1 } d).2.2 = 0 ∧ DSt w m md S DR (DPl.evictA con { Q with clock := Q.clock + 1 } d).2.1 (DPl.evictA con { Q with clock := Q.clock + 1 } d).1 wx)
  case first =>
    cases cd
    · have hro : Q.all.length < Q.room := by have := of_decide_eq_false HCd.out; omega
      have HE : Hid (DPl.evictA con { Q with clock := Q.clock + 1 } d = (d, { Q with clock := Q.clock + 1 }, 0)) := Lib.hid (by unfold DPl.evictA; rw [if_pos hro])
      clear hro
      go_wp2_with fail
      go_meet
      rw [HE.out]
      exact ⟨rfl, HSt.out.nob (Kept.drewN Nob _ _)⟩
    · have hro : ¬ Q.all.length < Q.room := by have := of_decide_eq_true HCd.out; omega
      have HEv : Hid (DPl.evictA con { Q with clock := Q.clock + 1 } d = match oldOf Q.mark Q.all with
          | none => (d, { Q with clock := Q.clock + 1 }, 8)
          | some x => if x.dirty then (if (d.save (8 * x.n) (bytesOf (con x.pg))).2 = 0 then ((d.save (8 * x.n) (bytesOf (con x.pg))).1, DPl.del { Q with clock := Q.clock + 1, wrote := Q.wrote + 1 } x.n, 0) else ((d.save (8 * x.n) (bytesOf (con x.pg))).1, { Q with clock := Q.clock + 1 }, 9)) else (d, DPl.del { Q with clock := Q.clock + 1 } x.n, 0)) := Lib.hid (by unfold DPl.evictA; rw [if_neg hro]; rfl)
      have HSd := Lib.hid (HSt.out.nob (Kept.drewN Nob w1 nq))
      have HKd := Lib.hid (Kept.drewN Nob w1 nq)
      have HB2 := Lib.hid (((Kept.drewN Nob w1 nq).block m (Array.getElem?_eq_some_iff.1 HB1.out).1 (fun f => f)).trans HB1.out)
      have HR2 := Lib.hid (HR1.out.kept (Kept.drewN Nob w1 nq) (fun _ _ f => f))
      have HPl2 : Hid (∀ x ∈ Q.all, (w1.drewN nq).heap[x.g]? = some (.cells x.cells 153 (0, 0))) := Lib.hid fun x hx => HPl1.out x hx
      clear hro HSt HB1 HR1 HPl1
      generalize w1.drewN nq = w2 at *
      have HR0 : Hid (Kept Nob w2 w2) := Lib.hid (Kept.refl _ _)
      go_wp2_with fail
      go_loopw [7, 8, 9] (fun o i x wr => ∃ j : Nat, j ≤ Q.all.length ∧ i = .int .i64 j ∧ o = ptrOf ((oldOf Q.mark (Q.all.take j)).map (·.g)) ∧ Kept Nob w2 wr) (fun _ i _ _ => Q.all.length - (intOf i).toNat)
      case atStart => exact ⟨0, Nat.zero_le _, rfl, rfl, HR0.out⟩
      case round =>
        clear HR0
        obtain ⟨j, hj, rfl, rfl, hkw⟩ := hrel
        have HK := Lib.hid hkw
        have hbw := (hkw.block m (Array.getElem?_eq_some_iff.1 HB2.out).1 (fun f => f)).trans HB2.out
        have c3 : wr.cell? ⟨m, 3, none⟩ = some (.slice a Q.all.length c) := cell_at hbw 3 _ rfl
        have c4 : wr.cell? ⟨m, 4, none⟩ = some (.int .i64 Q.mark) := cell_at hbw 4 _ rfl
        have HBw := Lib.hid hbw
        clear hkw hbw
        by_cases hlt : j < Q.all.length
        · have HT := Lib.hid (oldOf_take Q.mark Q.all j hlt)
          obtain ⟨gb, go, u, rfl, hu, hc, -⟩ := (HR2.out.kept HK.out (fun _ _ f => f)).cell (i := j) (by rw [ptrsOf_len]; exact hlt)
          obtain rfl : u = .pointer (some ⟨Q.all[j].g, 0, none⟩) := by
            rw [ptrsOf, List.getElem?_map, List.getElem?_eq_getElem hlt] at hu
            exact (Option.some.inj hu).symm
          clear hu
          have hxb := (HK.out.block Q.all[j].g (Array.getElem?_eq_some_iff.1 (HPl2.out _ (List.getElem_mem hlt))).1 (fun f => f)).trans (HPl2.out _ (List.getElem_mem hlt))
          have hxl : Q.all[j].last ≤ 1000000000000 := by obtain ⟨R, -, -, -, -, -, -, -, -, -, -, q⟩ := HPg.out _ (List.getElem_mem hlt); exact q
          generalize Q.all[j] = x at *
          have d2 : wr.cell? ⟨x.g, 2, none⟩ = some (.int .i64 x.pins) := cell_at hxb 2 _ rfl
          have d3 : wr.cell? ⟨x.g, 3, none⟩ = some (.bool x.dirty) := cell_at hxb 3 _ rfl
          have d4 : wr.cell? ⟨x.g, 4, none⟩ = some (.int .i64 x.lsn) := cell_at hxb 4 _ rfl
          have d5 : wr.cell? ⟨x.g, 5, none⟩ = some (.int .i64 x.last) := cell_at hxb 5 _ rfl
          clear hxb
          by_cases hp : x.pins = 0
          · have hb0 : ((x.pins : Int) == 0) = true := by simpa using hp
            have hb0' : (0 : Int) = (x.pins : Int) := by omega
            cases hdy : x.dirty with
            | false =>
              rw [hdy] at d3
              have hm : x.may Q.mark = true := by unfold DHd.may; rw [hdy, hp]; rfl
              clear hdy hb0'
              cases hacc : oldOf Q.mark (Q.all.take j) with
              | none =>
                have HB : Hid (Value.pointer (some ⟨x.g, 0, none⟩) = ptrOf ((oldOf Q.mark (Q.all.take (j + 1))).map (·.g))) := Lib.hid (by rw [HT.out, hacc, older_none hm]; rfl)
                rw [show ptrOf ((none : Option DHd).map (·.g)) = Value.pointer none from rfl]
                clear hm hacc
                go_wp2_with fail
                go_quiet (fail)
                go_wp2_with fail
                have HN := Lib.hid (HK.out.then (Kept.drewN Nob wr nq))
                go_roundw
                case rel => exact ⟨j + 1, by omega, by go_num, HB.out, HN.out⟩
                case measure => simp [intOf]; omega
              | some y =>
                have hym : y ∈ Q.all := List.mem_of_mem_take (oldOf_mem Q.mark _ _ hacc).1
                have hyl : y.last ≤ 1000000000000 := by obtain ⟨R, -, -, -, -, -, -, -, -, -, -, q⟩ := HPg.out _ hym; exact q
                have hyb := (HK.out.block y.g (Array.getElem?_eq_some_iff.1 (HPl2.out _ hym)).1 (fun f => f)).trans (HPl2.out _ hym)
                have e5 : wr.cell? ⟨y.g, 5, none⟩ = some (.int .i64 y.last) := cell_at hyb 5 _ rfl
                obtain ⟨xl, hxl1⟩ : ∃ xl : Int, (x.last : Int) = xl := ⟨_, rfl⟩
                obtain ⟨yl, hyl1⟩ : ∃ yl : Int, (y.last : Int) = yl := ⟨_, rfl⟩
                rw [hxl1] at d5
                rw [hyl1] at e5
                have HL1 := Lib.hid (And.intro hxl1 hyl1)
                clear hxl1 hyl1
                rw [show ptrOf ((some y).map (·.g)) = Value.pointer (some ⟨y.g, 0, none⟩) from rfl]
                clear hyb hym
                by_cases hus : x.last < y.last
                · have HB : Hid (Value.pointer (some ⟨x.g, 0, none⟩) = ptrOf ((oldOf Q.mark (Q.all.take (j + 1))).map (·.g))) := Lib.hid (by rw [HT.out, hacc, older_some hm, if_pos hus]; rfl)
                  have hus' : decide (xl < yl) = true := decide_eq_true (by have := HL1.out; omega)
                  clear hm hacc hus
                  go_wp2_with fail
                  go_quiet (fail)
                  go_wp2_with fail
                  have HN := Lib.hid (HK.out.then (Kept.drewN Nob wr nq))
                  go_roundw
                  case rel => exact ⟨j + 1, by omega, by go_num, HB.out, HN.out⟩
                  case measure => simp [intOf]; omega
                · have HB : Hid (Value.pointer (some ⟨y.g, 0, none⟩) = ptrOf ((oldOf Q.mark (Q.all.take (j + 1))).map (·.g))) := Lib.hid (by rw [HT.out, hacc, older_some hm, if_neg hus]; rfl)
                  have hus' : decide (xl < yl) = false := decide_eq_false (by have := HL1.out; omega)
                  clear hm hacc hus
                  go_wp2_with fail
                  go_quiet (fail)
                  go_wp2_with fail
                  have HN := Lib.hid (HK.out.then (Kept.drewN Nob wr nq))
                  go_roundw
                  case rel => exact ⟨j + 1, by omega, by go_num, HB.out, HN.out⟩
                  case measure => simp [intOf]; omega
            | true =>
              rw [hdy] at d3
              by_cases hls : x.lsn ≤ Q.mark
              · have hm : x.may Q.mark = true := by unfold DHd.may; rw [hdy, hp, decide_eq_true hls]; rfl
                have hb1 : decide (x.lsn ≤ Q.mark) = true := decide_eq_true hls
                clear hdy hb0' hls
                cases hacc : oldOf Q.mark (Q.all.take j) with
                | none =>
                  have HB : Hid (Value.pointer (some ⟨x.g, 0, none⟩) = ptrOf ((oldOf Q.mark (Q.all.take (j + 1))).map (·.g))) := Lib.hid (by rw [HT.out, hacc, older_none hm]; rfl)
                  rw [show ptrOf ((none : Option DHd).map (·.g)) = Value.pointer none from rfl]
                  clear hm hacc
                  go_wp2_with fail
                  go_quiet (fail)
                  go_wp2_with fail
                  have HN := Lib.hid (HK.out.then (Kept.drewN Nob wr nq))
                  go_roundw
                  case rel => exact ⟨j + 1, by omega, by go_num, HB.out, HN.out⟩
                  case measure => simp [intOf]; omega
                | some y =>
                  have hym : y ∈ Q.all := List.mem_of_mem_take (oldOf_mem Q.mark _ _ hacc).1
                  have hyl : y.last ≤ 1000000000000 := by obtain ⟨R, -, -, -, -, -, -, -, -, -, -, q⟩ := HPg.out _ hym; exact q
                  have hyb := (HK.out.block y.g (Array.getElem?_eq_some_iff.1 (HPl2.out _ hym)).1 (fun f => f)).trans (HPl2.out _ hym)
                  have e5 : wr.cell? ⟨y.g, 5, none⟩ = some (.int .i64 y.last) := cell_at hyb 5 _ rfl
                  obtain ⟨xl, hxl1⟩ : ∃ xl : Int, (x.last : Int) = xl := ⟨_, rfl⟩
                  obtain ⟨yl, hyl1⟩ : ∃ yl : Int, (y.last : Int) = yl := ⟨_, rfl⟩
                  rw [hxl1] at d5
                  rw [hyl1] at e5
                  have HL1 := Lib.hid (And.intro hxl1 hyl1)
                  clear hxl1 hyl1
                  rw [show ptrOf ((some y).map (·.g)) = Value.pointer (some ⟨y.g, 0, none⟩) from rfl]
                  clear hyb hym
                  by_cases hus : x.last < y.last
                  · have HB : Hid (Value.pointer (some ⟨x.g, 0, none⟩) = ptrOf ((oldOf Q.mark (Q.all.take (j + 1))).map (·.g))) := Lib.hid (by rw [HT.out, hacc, older_some hm, if_pos hus]; rfl)
                    have hus' : decide (xl < yl) = true := decide_eq_true (by have := HL1.out; omega)
                    clear hm hacc hus
                    go_wp2_with fail
                    go_quiet (fail)
                    go_wp2_with fail
                    have HN := Lib.hid (HK.out.then (Kept.drewN Nob wr nq))
                    go_roundw
                    case rel => exact ⟨j + 1, by omega, by go_num, HB.out, HN.out⟩
                    case measure => simp [intOf]; omega
                  · have HB : Hid (Value.pointer (some ⟨y.g, 0, none⟩) = ptrOf ((oldOf Q.mark (Q.all.take (j + 1))).map (·.g))) := Lib.hid (by rw [HT.out, hacc, older_some hm, if_neg hus]; rfl)
                    have hus' : decide (xl < yl) = false := decide_eq_false (by have := HL1.out; omega)
                    clear hm hacc hus
                    go_wp2_with fail
                    go_quiet (fail)
                    go_wp2_with fail
                    have HN := Lib.hid (HK.out.then (Kept.drewN Nob wr nq))
                    go_roundw
                    case rel => exact ⟨j + 1, by omega, by go_num, HB.out, HN.out⟩
                    case measure => simp [intOf]; omega
              · have hm : x.may Q.mark = false := by unfold DHd.may; rw [hdy, hp, decide_eq_false hls]; rfl
                have hb1 : decide (x.lsn ≤ Q.mark) = false := decide_eq_false hls
                clear hdy hb0' hls
                have HB : Hid (ptrOf ((oldOf Q.mark (Q.all.take j)).map (·.g)) = ptrOf ((oldOf Q.mark (Q.all.take (j + 1))).map (·.g))) := Lib.hid (by rw [HT.out, older_no hm])
                clear hm
                generalize ptrOf ((oldOf Q.mark (Q.all.take j)).map (·.g)) = o at *
                go_wp2_with fail
                go_quiet (fail)
                go_wp2_with fail
                have HN := Lib.hid (HK.out.then (Kept.drewN Nob wr nq))
                go_roundw
                case rel => exact ⟨j + 1, by omega, by go_num, HB.out, HN.out⟩
                case measure => simp [intOf]; omega
          · have hb0 : ((x.pins : Int) == 0) = false := by simp; omega
            have hm : x.may Q.mark = false := by unfold DHd.may; rw [decide_eq_false hp]; rfl
            clear hp
            have HB : Hid (ptrOf ((oldOf Q.mark (Q.all.take j)).map (·.g)) = ptrOf ((oldOf Q.mark (Q.all.take (j + 1))).map (·.g))) := Lib.hid (by rw [HT.out, older_no hm])
            clear hm
            generalize ptrOf ((oldOf Q.mark (Q.all.take j)).map (·.g)) = o at *
            go_wp2_with fail
            go_quiet (fail)
            go_wp2_with fail
            have HN := Lib.hid (HK.out.then (Kept.drewN Nob wr nq))
            go_roundw
            case rel => exact ⟨j + 1, by omega, by go_num, HB.out, HN.out⟩
            case measure => simp [intOf]; omega
        · obtain rfl : j = Q.all.length := by omega
          rw [List.take_length]
          have HSr := Lib.hid (HSd.out.nob HK.out)
          have hd0 : wr.cell? ⟨m, 0, none⟩ = some (.pointer (some ⟨md, 0, none⟩)) := cell_at HBw.out 0 _ rfl
          clear hlt hj c4
          cases hold : oldOf Q.mark Q.all with
          | none =>
            have HE : Hid (DPl.evictA con { Q with clock := Q.clock + 1 } d = (d, { Q with clock := Q.clock + 1 }, 8)) := Lib.hid (by rw [HEv.out, hold])
            rw [show ptrOf ((none : Option DHd).map (·.g)) = Value.pointer none from rfl]
            clear hold HEv
            go_wp2_with fail
            go_ret2
            exact RetDMiss.ref HE.out (by decide) ⟨rfl, HSr.out⟩
          | some x =>
            have hxm := (oldOf_mem Q.mark _ _ hold).1
            rw [show ptrOf ((some x).map (·.g)) = Value.pointer (some ⟨x.g, 0, none⟩) from rfl]
            obtain ⟨S1, R1, h1, h2, h3, h4, h5, h6, h7, h8, h9⟩ := HSr.out
            have hxb : wr.heap[x.g]? = some (.cells x.cells 153 (0, 0)) := (h1.held x hxm).1
            have d3 : wr.cell? ⟨x.g, 3, none⟩ = some (.bool x.dirty) := cell_at hxb 3 _ rfl
            obtain ⟨R, hp1, hp2, hp3, hp4, hp5, hp6, hp7, hp8, hp9, hp10, hp11⟩ := HPg.out x hxm
            have hpr : DPgAt wr x.pg (con x.pg) R := ((hp1.kept HK1.out hp2 (fun y hy e => hp4 (by rw [← show y = m from e]; exact hy))).kept HKd.out (fun f => f) (fun _ _ f => f)).kept HK.out (fun f => f) (fun _ _ f => f)
            have hxl : x.n ≤ 2000 := by have := h4.wf.most; omega
            have H1 := Lib.hid h1
            have H2 := Lib.hid h2
            have H3 := Lib.hid h3
            have H4 := Lib.hid h4
            have H5 := Lib.hid h5
            have H6 := Lib.hid h6
            have H7 := Lib.hid h7
            have H8 := Lib.hid h8
            have H9 := Lib.hid h9
            have HXm := Lib.hid hxm
            have hmr : m < wr.heap.size := h1.lt
            have hgl : x.g < wr.heap.size := cell_lt d3
            have hgd : x.g ≠ md := fun e => h8 (by rw [← e]; exact (h1.held x hxm).2)
            have hgm : x.g ≠ m := fun e => h1.noM (by rw [← e]; exact (h1.held x hxm).2)
            cases hdy : x.dirty with
            | false =>
              rw [hdy] at d3
              have HE : Hid (DPl.evictA con { Q with clock := Q.clock + 1 } d = (d, DPl.del { Q with clock := Q.clock + 1 } x.n, 0)) := Lib.hid (by rw [HEv.out, hold]; simp [hdy])
              have HDr := Lib.hid (doc_drop wr m md { Q with clock := Q.clock + 1 } S1 h1 h2 (by show Q.all.length ≤ 1000; omega) x hxm)
              clear hold HEv hdy h1 h2 h3 h4 h5 h6 h7 h8 h9 hxm hxb hpr hp1 hp2 hp3 hp4 hp5 hp6 hp7 hp8 hp9 hp10 hp11
              go_wp2_with (go_at_call 89; (with_reducible refine HDr.out.mono ?_); rintro e w4 ⟨rfl, ⟨S2, hp, hg⟩, hk⟩; have HN := Lib.hid (DSt.drop H2.out H3.out H4.out H5.out H6.out H7.out H8.out H9.out hmd hp hg hk); clear hp hg hk)
              go_meet
              rw [HE.out]
              exact ⟨rfl, HN.out⟩
            | true =>
              rw [hdy] at d3
              have hwl : d.now.length = d.good.length := h4.wf.len
              have hbl := bytesOf_length (con x.pg) hp7
              have HCo := Lib.hid (Dsk.wr_code hwl hp10 hbl 8 (by omega)).1
              have HWr := Lib.hid (dpool_write wr m md { Q with clock := Q.clock + 1 } S1 h1 x hxm hxl (con x.pg) R hpr hp6 hp7 ⟨hp8, hp9⟩ d R1 h4 hmd hgd hp10 (by omega))
              have HEs : Hid (DPl.evictA con { Q with clock := Q.clock + 1 } d = if (d.save (8 * x.n) (bytesOf (con x.pg))).2 = 0 then ((d.save (8 * x.n) (bytesOf (con x.pg))).1, DPl.del { Q with clock := Q.clock + 1, wrote := Q.wrote + 1 } x.n, 0) else ((d.save (8 * x.n) (bytesOf (con x.pg))).1, { Q with clock := Q.clock + 1 }, 9)) := Lib.hid (by rw [HEv.out, hold]; simp [hdy])
              have hops1 : (d.wr (8 * x.n) (bytesOf (con x.pg)) 8).1.ops < 9223372036854775807 := by have := Dsk.wr_ops d (8 * x.n) (bytesOf (con x.pg)) 8; omega
              have HSv : Hid (d.save (8 * x.n) (bytesOf (con x.pg)) = if (d.wr (8 * x.n) (bytesOf (con x.pg)) 8).2 = 0 then (d.wr (8 * x.n) (bytesOf (con x.pg)) 8).1.sync else d.wr (8 * x.n) (bytesOf (con x.pg)) 8) := Lib.hid rfl
              clear hold HEv hdy h1 h2 h3 h4 h5 h6 h7 h8 h9 hxm hxb hpr hp1 hp2 hp3 hp4 hp5 hp6 hp7 hp8 hp9 hp10 hp11 hwl hbl
              generalize d.save (8 * x.n) (bytesOf (con x.pg)) = sv at *
              generalize d.wr (8 * x.n) (bytesOf (con x.pg)) 8 = D1 at *
              obtain ⟨D1, c1⟩ := D1
              simp only at HCo HWr HSv hops1
              rcases HCo.out with hc | hc
              · rw [hc] at HWr HSv
                have HSv : Hid (sv = D1.sync) := Lib.hid (by rw [HSv.out, if_pos rfl])
                clear hc
                have HSc := Lib.hid (Dsk.sync_code D1)
                have HSy := Lib.hid fun (W : World) (R2 : Nat → Prop) (hd : DocAt W md D1 R2) => doc_sync_any W md D1 R2 hd hops1
                rcases HSc.out with hs0 | hs9
                · rw [hs0] at HSy
                  have HE : Hid (DPl.evictA con { Q with clock := Q.clock + 1 } d = (D1.sync.1, DPl.del { Q with clock := Q.clock + 1, wrote := Q.wrote + 1 } x.n, 0)) := Lib.hid (by rw [HEs.out, HSv.out, if_pos hs0])
                  clear hs0 HEs HSv HSc
                  go_upto_region 24 with (first
                    | (go_at_call 87; (with_reducible refine HWr.out.mono ?_); rintro e w4 ⟨rfl, ⟨R2, hd2, hg2⟩, hk2⟩; have HS4 := Lib.hid (HSy.out w4 R2 hd2); have HG2 := Lib.hid (H5.out.trans hg2 H9.out.size); have HK4 := Lib.hid hk2; have c04 : w4.cell? ⟨m, 0, none⟩ = some (.pointer (some ⟨md, 0, none⟩)) := (hk2.cell (p := ⟨m, 0, none⟩) hmr hmd).trans hd0; have HG2' := Lib.hid hg2; clear hd2 hg2 hk2)
                    | (go_at_call 88; (with_reducible refine HS4.out.mono ?_); rintro e w5 ⟨rfl, ⟨R3, hd3, hg3⟩, hk3⟩; have HK5 := Lib.hid (HK4.out.trans' hk3); have HG3 := Lib.hid (HG2'.out.trans hg3 HK4.out.size); have HN5 := Lib.hid (DSt.disk H1.out H2.out H3.out H5.out H6.out H7.out H8.out H9.out hmd hd3 HG3.out HK5.out); have d35 : w5.cell? ⟨x.g, 3, none⟩ = some (.bool true) := (HK5.out.cell (p := ⟨x.g, 3, none⟩) hgl hgd).trans d3; have hb5 := (HK5.out.block m hmr hmd).trans HBw.out; have c85 : w5.cell? ⟨m, 8, none⟩ = some (.int .i64 Q.wrote) := cell_at hb5 8 _ rfl; have f85 := frozen_at hb5 8; clear hd3 hg3 hk3 hb5))
                  have HN6 : Hid (DSt w m md S DR { Q with clock := Q.clock + 1, wrote := Q.wrote + 1 } D1.sync.1 (w5.setCell ⟨m, 8, none⟩ (.int .i64 ((Q.wrote : Int) + 1)))) := Lib.hid (HN5.out.turn hmd (kept1 w5 m 8 _) rfl fun hv hb => (heap_set w5 m 8 _ _ (.int .i64 ((Q.wrote : Int) + 1)) hb).trans rfl)
                  clear c04 d35 c85 f85 HN5 HS4
                  generalize w5.setCell ⟨m, 8, none⟩ (.int .i64 ((Q.wrote : Int) + 1)) = w6 at *
                  obtain ⟨S6, R6, q1, q2, q3, q4, q5, q6, q7, q8, q9⟩ := HN6.out
                  have HDr := Lib.hid (doc_drop w6 m md { Q with clock := Q.clock + 1, wrote := Q.wrote + 1 } S6 q1 q2 (by show Q.all.length ≤ 1000; omega) x HXm.out)
                  have Q2 := Lib.hid q2
                  have Q3 := Lib.hid q3
                  have Q4 := Lib.hid q4
                  have Q5 := Lib.hid q5
                  have Q6 := Lib.hid q6
                  have Q7 := Lib.hid q7
                  have Q8 := Lib.hid q8
                  have Q9 := Lib.hid q9
                  clear q1 q2 q3 q4 q5 q6 q7 q8 q9
                  go_wp2_with (go_at_call 89; (with_reducible refine HDr.out.mono ?_); rintro e w7 ⟨rfl, ⟨S2, hp, hg⟩, hk⟩; have HN := Lib.hid (DSt.drop Q2.out Q3.out Q4.out Q5.out Q6.out Q7.out Q8.out Q9.out hmd hp hg hk); clear hp hg hk)
                  go_meet
                  rw [HE.out]
                  exact ⟨rfl, HN.out⟩
                · rw [hs9] at HSy
                  have HE : Hid (DPl.evictA con { Q with clock := Q.clock + 1 } d = (D1.sync.1, { Q with clock := Q.clock + 1 }, 9)) := Lib.hid (by rw [HEs.out, HSv.out, if_neg (by rw [hs9]; decide)])
                  clear hs9 HEs HSv HSc
                  go_wp2_with (first
                    | (go_at_call 87; (with_reducible refine HWr.out.mono ?_); rintro e w4 ⟨rfl, ⟨R2, hd2, hg2⟩, hk2⟩; have HS4 := Lib.hid (HSy.out w4 R2 hd2); have HK4 := Lib.hid hk2; have c04 : w4.cell? ⟨m, 0, none⟩ = some (.pointer (some ⟨md, 0, none⟩)) := (hk2.cell (p := ⟨m, 0, none⟩) hmr hmd).trans hd0; have HG2' := Lib.hid hg2; clear hd2 hg2 hk2)
                    | (go_at_call 88; (with_reducible refine HS4.out.mono ?_); rintro e w5 ⟨rfl, ⟨R3, hd3, hg3⟩, hk3⟩; have HK5 := Lib.hid (HK4.out.trans' hk3); have HG3 := Lib.hid (HG2'.out.trans hg3 HK4.out.size); have HN5 := Lib.hid (DSt.disk H1.out H2.out H3.out H5.out H6.out H7.out H8.out H9.out hmd hd3 HG3.out HK5.out); clear hd3 hg3 hk3))
                  go_ret2
                  exact RetDMiss.ref HE.out (by decide) ⟨rfl, HN5.out⟩
              · rw [hc] at HWr HSv
                have HE : Hid (DPl.evictA con { Q with clock := Q.clock + 1 } d = (D1, { Q with clock := Q.clock + 1 }, 9)) := Lib.hid (by rw [HEs.out, HSv.out]; simp)
                clear hc HEs HSv
                go_wp2_with (go_at_call 87; (with_reducible refine HWr.out.mono ?_); rintro e w4 ⟨rfl, ⟨R2, hd2, hg2⟩, hk2⟩; have HN := Lib.hid (DSt.disk H1.out H2.out H3.out H5.out H6.out H7.out H8.out H9.out hmd hd2 hg2 hk2); clear hd2 hg2 hk2)
                go_ret2
                exact RetDMiss.ref HE.out (by decide) ⟨rfl, HN.out⟩
  case rest =>
    have hR := dpool_pin_rest w m md Q S hlen d DR hmd con hops hclock hrd k hk hk8 hpg HNk0 HBy wc u4 u5 u7 u8 u9 u17 u18 u19 u20 u21 u22 u23 u24 u25 u26 u27 u28 u29 u30 u31 u32 u33 u34 u35 u36 u37 u38 u39 u40 u41 u42 u43 u44 u45 u46 u47 u48 u49 u50 u51 u52 u53 u54 u55 u56 u57 u58 u59 u60 u61 u62 u63 u64 u65 u66 u67 u68 u69 u70 u71 u72 u73 u74 u75 u76 u77 u78 u79 u80 u81 u82 u83 u84 u85 u86 u87 u88 u89 u90 u91 u92 u93 u94 u95 u96 u97 u98 u99 u100 u101 u102 u103 u104 u105 u106 u107 u108 u109 u110 u111 u112 u113 u114 u115 u116 u117 u118 u119 u120 u121 u122 u123 u124 u125 u126 u127 u128 u129 u130 u131 u132 u133 u134 u135 u136 u137 u138 u139 u140 u141 u142 u143 u144 u145 u146 u147 u148 u149 u150 u151 u152 u153 u154 u155 u156 u157 u158 u159 u160 u161 u162 u163 u164 u165 u166 u167 u168 u169 u170 u171 u172 u173 u174 u175 u176 u177 u178 u179 u180 u181 u182 u183 u184 u185 u186 u187 u188 u189 u190 u191 u192 u193 u194 u195 u196 u197 u198 u199 u200 u201 u202 u203 u204 u205 u206 u207 u208 u209 u210 u211 u212 u213 u214 u215 u216 u217 u218 u219 u220 u221 u222 u223 u224 u225 u226 u227 u228 u229 u230 u231 u232 hcut
    exact (by assumption : ∀ (a : Act) (w1 : World), Code.wp Tryz.prog dpinRest (bodyPost Tryz.prog Tryz.f49 (RetDMiss w m md S DR con Q d k)) a w1 → _) _ _ hR
end Go.Proofs.YthppgchmamonnaaGreatDoor
