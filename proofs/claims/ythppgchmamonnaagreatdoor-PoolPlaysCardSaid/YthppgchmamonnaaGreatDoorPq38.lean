/- The document's own pool: Pin of a page that is not held, behind the place where room is made. -/
import Derived.Test.YthppgchmamonnaaGreatDoorPq32
namespace Go.Proofs.YthppgchmamonnaaGreatDoor
open Go.RowKit
theorem meet1 {α0 : Type} {G : Prop} {P F : α0 → Prop} (h2 : (∀ a0, F a0 → P a0) → G) (h1 : ∀ a0, F a0 → P a0) : G := h2 h1
theorem meet2 {α0 α1 : Type} {G : Prop} {P F : α0 → α1 → Prop} (h2 : (∀ a0 a1, F a0 a1 → P a0 a1) → G) (h1 : ∀ a0 a1, F a0 a1 → P a0 a1) : G := h2 h1
theorem meet3 {α0 α1 α2 : Type} {G : Prop} {P F : α0 → α1 → α2 → Prop} (h2 : (∀ a0 a1 a2, F a0 a1 a2 → P a0 a1 a2) → G) (h1 : ∀ a0 a1 a2, F a0 a1 a2 → P a0 a1 a2) : G := h2 h1
theorem meet4 {α0 α1 α2 α3 : Type} {G : Prop} {P F : α0 → α1 → α2 → α3 → Prop} (h2 : (∀ a0 a1 a2 a3, F a0 a1 a2 a3 → P a0 a1 a2 a3) → G) (h1 : ∀ a0 a1 a2 a3, F a0 a1 a2 a3 → P a0 a1 a2 a3) : G := h2 h1
theorem meet5 {α0 α1 α2 α3 α4 : Type} {G : Prop} {P F : α0 → α1 → α2 → α3 → α4 → Prop} (h2 : (∀ a0 a1 a2 a3 a4, F a0 a1 a2 a3 a4 → P a0 a1 a2 a3 a4) → G) (h1 : ∀ a0 a1 a2 a3 a4, F a0 a1 a2 a3 a4 → P a0 a1 a2 a3 a4) : G := h2 h1
theorem meet6 {α0 α1 α2 α3 α4 α5 : Type} {G : Prop} {P F : α0 → α1 → α2 → α3 → α4 → α5 → Prop} (h2 : (∀ a0 a1 a2 a3 a4 a5, F a0 a1 a2 a3 a4 a5 → P a0 a1 a2 a3 a4 a5) → G) (h1 : ∀ a0 a1 a2 a3 a4 a5, F a0 a1 a2 a3 a4 a5 → P a0 a1 a2 a3 a4 a5) : G := h2 h1
def rights : Nat → Code → Code
  | 0, c => c
  | n + 1, .seq _ b => rights n b
  | _ + 1, c => c
noncomputable def dpinRest : Code := rights 6 (Tryz.f49.body.getD .skip)
set_option maxRecDepth 100000 in
set_option maxHeartbeats 8000000 in
theorem dpool_pin_rest (w : World) (m md : Nat) (Q : DPl) (S : Nat → Prop) (hlen : Q.all.length ≤ 100) (d : Dsk) (DR : Nat → Prop) (hmd : m ≠ md) (con : Nat → PgM) (_hops : d.ops ≤ 100000000000) (_hclock : Q.clock ≤ 1000000000000) (hrd : Q.reads ≤ 1000000000000) (k : Nat) (hk : k < Q.pages) (hk8 : 8 * k + 8 ≤ d.good.length) (hpg : Q.pages ≤ 2000)
    (HNk0 : Hid (∀ x ∈ Q.all, x.n ≠ k)) (HBy : Hid (∀ u ∈ Wal.flat (DPl.evictA con { Q with clock := Q.clock + 1 } d).1.now (8 * k) 8, ∃ n : Int, u = .int .u8 n ∧ 0 ≤ n ∧ n < 256)) (wc : World) (u4 u5 u7 u8 u9 u17 u18 u19 u20 u21 u22 u23 u24 u25 u26 u27 u28 u29 u30 u31 u32 u33 u34 u35 u36 u37 u38 u39 u40 u41 u42 u43 u44 u45 u46 u47 u48 u49 u50 u51 u52 u53 u54 u55 u56 u57 u58 u59 u60 u61 u62 u63 u64 u65 u66 u67 u68 u69 u70 u71 u72 u73 u74 u75 u76 u77 u78 u79 u80 u81 u82 u83 u84 u85 u86 u87 u88 u89 u90 u91 u92 u93 u94 u95 u96 u97 u98 u99 u100 u101 u102 u103 u104 u105 u106 u107 u108 u109 u110 u111 u112 u113 u114 u115 u116 u117 u118 u119 u120 u121 u122 u123 u124 u125 u126 u127 u128 u129 u130 u131 u132 u133 u134 u135 u136 u137 u138 u139 u140 u141 u142 u143 u144 u145 u146 u147 u148 u149 u150 u151 u152 u153 u154 u155 u156 u157 u158 u159 u160 u161 u162 u163 u164 u165 u166 u167 u168 u169 u170 u171 u172 u173 u174 u175 u176 u177 u178 u179 u180 u181 u182 u183 u184 u185 u186 u187 u188 u189 u190 u191 u192 u193 u194 u195 u196 u197 u198 u199 u200 u201 u202 u203 u204 u205 u206 u207 u208 u209 u210 u211 u212 u213 u214 u215 u216 u217 u218 u219 u220 u221 u222 u223 u224 u225 u226 u227 u228 u229 u230 u231 u232 : Value) (hcut : (DPl.evictA con { Q with clock := Q.clock + 1 } d).2.2 = 0 ∧ DSt w m md S DR (DPl.evictA con { Q with clock := Q.clock + 1 } d).2.1 (DPl.evictA con { Q with clock := Q.clock + 1 } d).1 wc) :
    Code.wp Tryz.prog dpinRest (bodyPost Tryz.prog Tryz.f49 (RetDMiss w m md S DR con Q d k)) { tmps := #[.pointer (some ⟨m, 0, none⟩), .int .i64 k, undef, undef, u4, u5, .pointer none, u7, u8, u9, undef, undef, undef, undef, undef, undef, undef, u17, u18, u19, u20, u21, u22, u23, u24, u25, u26, u27, u28, u29, u30, u31, u32, u33, u34, u35, u36, u37, u38, u39, u40, u41, u42, u43, u44, u45, u46, u47, u48, u49, u50, u51, u52, u53, u54, u55, u56, u57, u58, u59, u60, u61, u62, u63, u64, u65, u66, u67, u68, u69, u70, u71, u72, u73, u74, u75, u76, u77, u78, u79, u80, u81, u82, u83, u84, u85, u86, u87, u88, u89, u90, u91, u92, u93, u94, u95, u96, u97, u98, u99, u100, u101, u102, u103, u104, u105, u106, u107, u108, u109, u110, u111, u112, u113, u114, u115, u116, u117, u118, u119, u120, u121, u122, u123, u124, u125, u126, u127, u128, u129, u130, u131, u132, u133, u134, u135, u136, u137, u138, u139, u140, u141, u142, u143, u144, u145, u146, u147, u148, u149, u150, u151, u152, u153, u154, u155, u156, u157, u158, u159, u160, u161, u162, u163, u164, u165, u166, u167, u168, u169, u170, u171, u172, u173, u174, u175, u176, u177, u178, u179, u180, u181, u182, u183, u184, u185, u186, u187, u188, u189, u190, u191, u192, u193, u194, u195, u196, u197, u198, u199, u200, u201, u202, u203, u204, u205, u206, u207, u208, u209, u210, u211, u212, u213, u214, u215, u216, u217, u218, u219, u220, u221, u222, u223, u224, u225, u226, u227, u228, u229, u230, u231, u232], defers := [] } wc := by
  unfold dpinRest
  conv => arg 2; whnf
  obtain ⟨hE0, hst⟩ := hcut
  obtain ⟨hg8, hE1, hE2, hE3, hE4, hE5, hE6, hE7, hE8, hE9, hE10⟩ := DPl.evictA_facts con { Q with clock := Q.clock + 1 } d
  have HMi : ∀ (e : Ending) (w' : World), ((pageIn (DPl.evictA con { Q with clock := Q.clock + 1 } d).1 k = none → RetDRef w m md S DR { (DPl.evictA con { Q with clock := Q.clock + 1 } d).2.1 with reads := (DPl.evictA con { Q with clock := Q.clock + 1 } d).2.1.reads + 1 } (DPl.evictA con { Q with clock := Q.clock + 1 } d).1 10 e w') ∧ ∀ p, pageIn (DPl.evictA con { Q with clock := Q.clock + 1 } d).1 k = some p →
      RetDNew w m md S DR Q.clock (DPl.evictA con { Q with clock := Q.clock + 1 } d).2.1 (DPl.evictA con { Q with clock := Q.clock + 1 } d).1 k p e w') → RetDMiss w m md S DR con Q d k e w' := fun e w' h => ⟨fun h0 => absurd hE0 h0, fun _ => h⟩
  have HMi := Lib.hid HMi
  have HNk : Hid (∀ x ∈ (DPl.evictA con { Q with clock := Q.clock + 1 } d).2.1.all, x.n ≠ k) := Lib.hid fun x hx e => HNk0.out x (hE8 x hx) e
  clear hE0 hE1 hE2 hE3 hE5 hE8 hE10
  generalize DPl.evictA con { Q with clock := Q.clock + 1 } d = E at *
  obtain ⟨d1, Q1, cE⟩ := E
  simp only at hst hg8 hE4 hE6 hE7 hE9 HMi HBy HNk
  have HG8 := Lib.hid hg8
  have HE4 := Lib.hid hE4
  have HE6 := Lib.hid hE6
  have HE9 := Lib.hid hE9
  have hk8' : 8 * k + 8 ≤ d1.good.length := by omega
  have hrb : Q1.reads ≤ 1000000000000 := by omega
  have hql : Q1.all.length ≤ 100 := by omega
  clear hg8 hE4 hE6 hE7 hE9
  have hby := HBy.out
  obtain ⟨hfl, hin⟩ := numsOf_map _ hby
  have HFl := Lib.hid hfl
  have HIn := Lib.hid hin
  obtain ⟨S1, R1, h1, h2, h3, h4, h5, h6, h7, h8, h9⟩ := hst
  have hlen1 : (Wal.flat d1.now (8 * k) 8).length = 512 := Wal.flat_length h4.wf.now 8 (by rw [h4.wf.len]; omega)
  have HLn : Hid ((numsOf (Wal.flat d1.now (8 * k) 8)).length = 512) := Lib.hid (by
    have := congrArg List.length hfl
    rw [List.length_map] at this
    omega)
  have hpi : pageIn d1 k = readOf k (numsOf (Wal.flat d1.now (8 * k) 8)) := rfl
  rw [hpi] at HMi
  clear hfl hin hby HBy hpi
  generalize numsOf (Wal.flat d1.now (8 * k) 8) = ys at *
  have hst1 : DSt w m md S DR Q1 d1 wc := ⟨S1, R1, h1, h2, h3, h4, h5, h6, h7, h8, h9⟩
  obtain ⟨hv, T, hb, -, -⟩ := h1.head
  have c7 : wc.cell? ⟨m, 7, none⟩ = some (.int .i64 Q1.reads) := cell_at hb 7 _ rfl
  have f7 := frozen_at hb 7
  have HS2 : Hid (DSt w m md S DR { Q1 with reads := Q1.reads + 1 } d1 (wc.setCell ⟨m, 7, none⟩ (.int .i64 ((Q1.reads : Int) + 1)))) := Lib.hid (hst1.turn hmd (kept1 wc m 7 _) rfl fun hv hb => (heap_set wc m 7 _ _ (.int .i64 ((Q1.reads : Int) + 1)) hb).trans rfl)
  clear hst1 h1 h2 h3 h4 h5 h6 h7 h8 h9 hb
  go_upto_region 26 with fail
  clear c7 f7
  generalize wc.setCell ⟨m, 7, none⟩ (.int .i64 ((Q1.reads : Int) + 1)) = wA at *
  obtain ⟨S1, R1, h1, h2, h3, h4, h5, h6, h7, h8, h9⟩ := HS2.out
  have hmost : 8 * k + 8 ≤ 8192 := by have := h4.wf.most; omega
  obtain ⟨hv1, T1, hbA, hrA, -⟩ := h1.head
  obtain ⟨ha, hca, rfl, -⟩ := hrA.shape
  rw [DPl.ptrs_of, ptrsOf_len] at hbA hrA
  have A1 := Lib.hid h1
  have A2 := Lib.hid h2
  have A3 := Lib.hid h3
  have A4 := Lib.hid h4
  have A5 := Lib.hid h5
  have A6 := Lib.hid h6
  have A7 := Lib.hid h7
  have A8 := Lib.hid h8
  have A9 := Lib.hid h9
  have ABm := Lib.hid hbA
  have ARw := Lib.hid hrA
  have hmA : m < wA.heap.size := h1.lt
  clear h1 h2 h3 h4 h5 h6 h7 h8 h9 hbA hrA HS2
  have HR0 : Hid (PReadRel wA d1.now (8 * k) 0 (.slice none 0 0) wA) := Lib.hid ⟨none, 0, rfl, Own.nil _ _ _, Kept.refl _ _⟩
  go_wp2_with fail
  go_loopw [10, 11, 12, 13] (fun o i s e wr => ∃ j : Nat, j ≤ 8 ∧ i = .int .i64 j ∧ PReadRel wA d1.now (8 * k) j o wr) (fun _ i _ _ _ => 8 - (intOf i).toNat)
  case atStart => exact ⟨0, by omega, rfl, HR0.out⟩
  case round =>
    clear HR0
    obtain ⟨j, hj, rfl, ob, oc, rfl, ho, hkw⟩ := hrel
    have HO := Lib.hid ho
    have HK := Lib.hid hkw
    have c0 : wr.cell? ⟨m, 0, none⟩ = some (.pointer (some ⟨md, 0, none⟩)) := cell_at ((hkw.block m hmA (fun f => f)).trans ABm.out) 0 _ rfl
    have H4 := Lib.hid (A4.out.kept hkw (fun f => f) (fun _ _ f => f))
    clear ho hkw
    by_cases hlt : j < 8
    · have hX := Dsk.Sectors.getD H4.out.wf.now (i := 8 * k + j) (by rw [H4.out.wf.len]; omega)
      have HRd := Lib.hid (show Calls Tryz.prog 90 #[.pointer (some ⟨md, 0, none⟩), .int .i64 (8 * (k : Int) + (j : Int))] wr (RetDocRead wr (d1.now.getD (8 * k + j) []) R1) from by
        have := doc_read wr md d1 R1 H4.out (8 * k + j) (by omega)
        rw [show ((8 * k + j : Nat) : Int) = 8 * (k : Int) + (j : Int) from by omega] at this
        exact this)
      have HX := Lib.hid hX
      have hfl : (Wal.flat d1.now (8 * k) j).length = 64 * j := Wal.flat_length H4.out.wf.now j (by rw [H4.out.wf.len]; omega)
      have HFj := Lib.hid hfl
      clear hX hfl
      go_wp2_with (first
        | (go_at_call 90; (with_reducible refine HRd.out.mono ?_); rintro e w2 ⟨b2, c2, rfl, ho2, hk2⟩; have HO1 := Lib.hid (HO.out.kept hk2 (fun _ _ f => f)); have HO2 := Lib.hid ho2; have HK2 := Lib.hid (HK.out.then hk2); clear ho2 hk2)
        | (at_builtin; refine wpList_append_pg rfl _ _ 50 rfl tBytes (.slice ob (64 * j) oc) (.slice b2 64 c2) (Wal.flat d1.now (8 * k) j) (d1.now.getD (8 * k + j) []) _ _ rfl rfl HO1.out HO2.out (fun u hu => (HX.out.2 u hu).one) (by rw [HX.out.1, HFj.out]; omega) ?_; intro b4 c4 w4 ho4 hk4 _; rw [HX.out.1, HFj.out] at ho4 ⊢; have HO4 := Lib.hid ho4; have HK4 := Lib.hid hk4; clear ho4 hk4))
      have HN : Hid (PReadRel wA d1.now (8 * k) (j + 1) (.slice b4 (64 * j + 64) c4) w4) := by
        refine Lib.hid ⟨b4, c4, by rw [Nat.mul_succ], ?_, HK2.out.from (Nat.le_refl _) (HK4.out.mono fun x _ hx => HO.out.2 x hx)⟩
        have := HO4.out.mono (G := From wA.heap.size) (fun x _ hx => by
          rcases hx with hx | hx
          · exact HO.out.2 x hx
          · have := HK2.out.size; show _ ≤ _; omega)
        rw [Wal.flat]
        exact this
      go_roundw
      case rel => exact ⟨j + 1, by omega, by go_num, HN.out⟩
      case measure => simp [intOf]; omega
    · have hj8 : j = 8 := by omega
      subst hj8
      rw [HFl.out] at HO
      clear hlt hj H4 HFl
      go_upto_region 33 with fail
      clear c0
      have HKz := Lib.hid (HK.out.then (Kept.alloc Nob wr (.cells #[.int .i64 0, .int .i64 k, .slice none 0 0, .slice none 0 0] 106)))
      have HOz := Lib.hid (HO.out.alloc (.cells #[.int .i64 0, .int .i64 k, .slice none 0 0, .slice none 0 0] 106))
      have HZp : Hid (DPgAt (wr.alloc (.cells #[.int .i64 0, .int .i64 k, .slice none 0 0, .slice none 0 0] 106)) wr.heap.size ⟨0, k, []⟩ Nob) := Lib.hid ⟨_, _, heap_alloc_new wr _, ⟨[], Own.nil _ _ _, RowsAt.nil _ _ _⟩, Own.nil _ _ _, fun f => f⟩
      have hzn : wA.heap.size ≤ wr.heap.size := HK.out.size
      clear HO HK
      generalize wr.alloc (.cells #[.int .i64 0, .int .i64 k, .slice none 0 0, .slice none 0 0] 106) = wz at *
      generalize wr.heap.size = pgz at *
      obtain ⟨gq, e, hgq⟩ := HOz.out.addr (by decide)
      subst e
      have hgl : gq < wz.heap.size := HOz.out.blockLt rfl
      have HCv : Hid (∀ W, Kept Nob wz W → (convert 50 9 (.slice (some ⟨gq, 0, none⟩) (64 * 8) oc)).run Tryz.prog W = .ok (.string (strOfNums ys)) W) := Lib.hid fun W q =>
        run_convert_bytes_arg W 50 5 Tryz.underlying50 Tryz.underlying5 gq 0 (64 * 8) oc ys HLn.out (fun i hi => by
          have := (HOz.out.kept q (fun _ _ f => f)).cell i _ (by rw [List.getElem?_map, List.getElem?_eq_getElem (by rw [HLn.out]; exact hi)]; rfl)
          rw [Nat.zero_add, this, List.getD_eq_getElem?_getD, List.getElem?_eq_getElem (by rw [HLn.out]; exact hi)]; rfl) _ Tryz.underlying9
      have HQz : Hid (((strOfNums ys).toList == (strOfNums (List.replicate 512 (0 : Int))).toList) = true ↔ ys = List.replicate 512 0) := Lib.hid ⟨fun h => strOfNums_inj HIn.out (fun y hy => by rw [List.mem_replicate] at hy; omega) (by simpa using h), fun h => by rw [h]; simp⟩
      obtain ⟨bq, hbq⟩ : ∃ bq, ((strOfNums ys).toList == (strOfNums (List.replicate 512 (0 : Int))).toList) = bq := ⟨_, rfl⟩
      rw [hbq] at HQz
      have HCm : Hid (∀ (W : World) (g : Nat) (G : Nat → Prop), Own W 5 (.slice (some ⟨g, 0, none⟩) 512 512) (List.replicate 512 (.int .u8 0)) G → (convert 50 9 (.slice (some ⟨g, 0, none⟩) 512 512)).run Tryz.prog W = .ok (.string (strOfNums (List.replicate 512 (0 : Int)))) W) := Lib.hid fun W g G hb =>
        run_convert_bytes_arg W 50 5 Tryz.underlying50 Tryz.underlying5 g 0 512 512 _ (by simp) (fun i hi => by
          have := hb.cell i _ (List.getElem?_replicate_of_lt (by exact hi))
          rw [Nat.zero_add, this, List.getD_eq_getElem?_getD, List.getElem?_replicate_of_lt (by exact hi)]; rfl) _ Tryz.underlying9
      have HPs : Hid (∀ W, Kept Nob wz W → Calls Tryz.prog 91 #[.slice (some ⟨gq, 0, none⟩) 512 oc] W (RetDParse W ys)) := Lib.hid fun W q => dpage_parse W gq 0 oc ys _ ((HOz.out.kept q (fun _ _ f => f)).reads) HLn.out HIn.out
      generalize hs1 : strOfNums ys = s1 at *
      generalize hs0 : strOfNums (List.replicate 512 (0 : Int)) = s0 at *
      clear hs1 hs0
      refine wp_region_held_drew (S := fun W => Kept Nob wz W) (by kernel_rfl) ?_ (fun hHeld => ?_)
      · exact Kept.drew _ _
      refine take_in (v := ?_) 0 (some 192) ?_ ?_
      case refine_2 => intro w hSw; go_simp; try with_reducible rfl
      try simp only [putS]
      refine take_in (v := ?_) 1 (some 193) ?_ ?_
      case refine_2 => (intro w hSw; (try dsimp only at hSw); have hcv := HCv.out _ (by assumption); go_simp; try with_reducible rfl)
      try simp only [putS]
      refine wpAnyH_ready (rs := [2]) (by kernel_rfl) (by simp) ?_
      refine AllReadyH.cons (o := _) rfl (fun K hK => ?_) AllReadyH.nil
      refine step_make_pg rfl _ _ 50 rfl tBytes rfl 512 .i64 .i64 rfl rfl (by omega) ?_
      intro wm hom hkm
      obtain ⟨gm, hgm⟩ : ∃ gm, wz.drew.heap.size = gm := ⟨_, rfl⟩
      rw [hgm] at hom ⊢
      have HOm := Lib.hid hom
      have HKm0 := Lib.hid (hHeld.then hkm)
      clear hom hkm hgm
      refine hK.out _ _ (HKm0.out) (fun hHeld => ?_)
      clear hK K
      try simp only [putS]
      refine wpAnyH_ready (rs := [3]) (by kernel_rfl) (by simp) ?_
      refine AllReadyH.cons (o := _) rfl (fun K hK => ?_) AllReadyH.nil
      have hcm := HCm.out _ _ _ HOm.out
      go_simp
      clear hcm
      refine hK.out _ _ (by assumption) (fun hHeld => ?_)
      clear hK K
      try simp only [putS]
      refine take_in (v := ?_) 4 (some 196) ?_ ?_
      case refine_2 => intro w hSw; go_simp; try with_reducible rfl
      try simp only [putS]
      refine wpAnyH_done (by kernel_rfl) ?_ _
      have HKm := Lib.hid hHeld
      have hpz : pgz < wm.heap.size := by
        have h1 := HZp.out.lt
        have h2 := HKm.out.size
        omega
      go_upto_if 196 with fail
      go_cut [14, 15, 16] (fun s14 s15 s16 wx => ∃ pg p R2, s14 = .pointer (some ⟨pg, 0, none⟩) ∧ readOf k ys = some p ∧ DPgAt wx pg p R2 ∧ wA.heap.size ≤ pg ∧ (∀ x, R2 x → wA.heap.size ≤ x ∧ x < wx.heap.size) ∧ Kept Nob wA wx)
      case first =>
        cases bq
        · have hyz : ¬ ys = List.replicate 512 0 := fun e => by have := HQz.out.2 e; cases this
          have HRo : Hid (readOf k ys = (parseOf ys).bind fun p => if p.id = k then some p else none) := Lib.hid (by unfold readOf; rw [if_neg hyz])
          clear hyz
          cases hpo : parseOf ys with
          | none =>
            rw [hpo] at HRo
            have HPo := Lib.hid hpo
            clear hpo
            have HPn : Hid (Calls Tryz.prog 91 #[.slice (some ⟨gq, 0, none⟩) 512 oc] wm fun e w' => e = .returned (.tuple #[.pointer none, .int .i64 10]) ∧ Kept Nob wm w') := Lib.hid ((HPs.out wm HKm.out).mono fun e w' h => ⟨h.2.1 HPo.out, h.1⟩)
            go_wp2_with (go_at_call 91; (with_reducible refine HPn.out.mono ?_); rintro e w5 ⟨rfl, hk5⟩; have HK5 := Lib.hid hk5; clear hk5)
            go_ret2
            refine HMi.out _ _ ⟨fun _ => ⟨rfl, S1, R1, ?_⟩, fun p h => by rw [HRo.out] at h; cases h⟩
            have kk : Kept Nob wA w5 := (HKz.out.then HKm.out).then HK5.out
            exact ⟨A1.out.nob kk, A2.out.mono kk.size, A3.out, A4.out.kept kk (fun f => f) (fun _ _ f => f), A5.out, A6.out, A7.out, A8.out, A9.out.then kk⟩
          | some p =>
            rw [hpo] at HRo
            have HPo := Lib.hid hpo
            clear hpo
            have HPn : Hid (Calls Tryz.prog 91 #[.slice (some ⟨gq, 0, none⟩) 512 oc] wm fun e w' => ∃ pg, e = .returned (.tuple #[.pointer (some ⟨pg, 0, none⟩), .int .i64 0]) ∧ wm.heap.size ≤ pg ∧ DPgAt w' pg p (fun x => wm.heap.size ≤ x ∧ x < w'.heap.size ∧ x ≠ pg) ∧ Kept Nob wm w') := Lib.hid ((HPs.out wm HKm.out).mono fun e w' h => by
              obtain ⟨pg, q1, q2, q3⟩ := h.2.2 p HPo.out
              exact ⟨pg, q1, q2, q3, h.1⟩)
            by_cases hidk : p.id = k
            · have hidb : (p.id == (k : Int)) = true := by simpa using hidk
              have HRo : Hid (readOf k ys = some p) := Lib.hid (by rw [HRo.out]; simp [hidk])
              clear hidk
              go_wp2_with (go_at_call 91; (with_reducible refine HPn.out.mono ?_); rintro e w5 ⟨pg, rfl, hpg1, hpg2, hk5⟩; have HK5 := Lib.hid hk5; have HPg2 := Lib.hid hpg2; have HPg1 := Lib.hid hpg1; have c1 : w5.cell? ⟨pg, 1, none⟩ = some (.int .i64 p.id) := cell_at hpg2.choose_spec.choose_spec.1 1 _ rfl; clear hk5 hpg2 hpg1)
              go_meet
              have kk := (HKz.out.then HKm.out).then HK5.out
              have s1 := (HKz.out.then HKm.out).size
              exact ⟨pg, p, _, rfl, HRo.out, HPg2.out, Nat.le_trans s1 HPg1.out, fun x hx => ⟨Nat.le_trans s1 hx.1, hx.2.1⟩, kk⟩
            · have hidb : (p.id == (k : Int)) = false := by simpa using hidk
              have HRo : Hid (readOf k ys = none) := Lib.hid (by rw [HRo.out]; simp [hidk])
              clear hidk
              go_wp2_with (go_at_call 91; (with_reducible refine HPn.out.mono ?_); rintro e w5 ⟨pg, rfl, hpg1, hpg2, hk5⟩; have HK5 := Lib.hid hk5; have c1 : w5.cell? ⟨pg, 1, none⟩ = some (.int .i64 p.id) := cell_at hpg2.choose_spec.choose_spec.1 1 _ rfl; clear hk5 hpg2 hpg1)
              go_ret2
              refine HMi.out _ _ ⟨fun _ => ⟨rfl, S1, R1, ?_⟩, fun p h => by rw [HRo.out] at h; cases h⟩
              have kk : Kept Nob wA w5 := (HKz.out.then HKm.out).then HK5.out
              exact ⟨A1.out.nob kk, A2.out.mono kk.size, A3.out, A4.out.kept kk (fun f => f) (fun _ _ f => f), A5.out, A6.out, A7.out, A8.out, A9.out.then kk⟩
        · have HRo : Hid (readOf k ys = some ⟨0, k, []⟩) := Lib.hid (by unfold readOf; rw [if_pos (HQz.out.1 rfl)])
          go_wp2_with fail
          go_meet
          exact ⟨pgz, _, Nob, rfl, HRo.out, HZp.out.kept HKm.out (fun f => f) (fun _ _ f => f), hzn, fun _ f => f.elim, HKz.out.then HKm.out⟩
      case rest =>
        obtain ⟨pg, p, R2, rfl, hro, hpg, hpg1, hR2, hkB⟩ := hcut
        have HRo := Lib.hid hro
        have HPg := Lib.hid hpg
        have HPg1 := Lib.hid hpg1
        have HR2 := Lib.hid hR2
        have HKB := Lib.hid hkB
        clear hro hpg hpg1 hR2 hkB HPs HCm HQz HCv HOz HZp HKm HKz HIn HLn
        generalize wc = wB at *
        have HC3 : Hid (∀ W, Kept Nob wB W → W.cell? ⟨m, 3, none⟩ = some (.slice ha Q1.all.length hca) ∧ W.frozen? ⟨m, 3, none⟩ = false) := Lib.hid fun W q => by
          have hb := ((HKB.out.then q).block m hmA (fun f => f)).trans ABm.out
          exact ⟨cell_at hb 3 _ rfl, frozen_at hb 3⟩
        obtain ⟨ck, hck⟩ : ∃ ck : Int, (Q1.clock : Int) = ck := ⟨_, rfl⟩
        have HC5 : Hid (∀ W v, Kept Nob wB W → W.cell? ⟨m, 5, none⟩ = some (.int .i64 ck) ∧ (W.setCell ⟨m, 3, none⟩ v).cell? ⟨m, 5, none⟩ = some (.int .i64 ck)) := Lib.hid fun W v q => by
          have hb := ((HKB.out.then q).block m hmA (fun f => f)).trans ABm.out
          exact ⟨by rw [cell_at hb 5 _ rfl]; show some (Value.int .i64 (Q1.clock : Int)) = _; rw [hck], by rw [cell_at (heap_set W m 3 _ _ v hb) 5 _ rfl]; show some (Value.int .i64 (Q1.clock : Int)) = _; rw [hck]⟩
        have HCk := Lib.hid hck
        clear hck
        have HRB : Hid (∀ W, Kept Nob wB W → Reads W (.slice ha Q1.all.length hca) (ptrsOf Q1.all) T1) := Lib.hid fun W q => (ARw.out.kept HKB.out (fun _ _ f => f)).kept q (fun _ _ f => f)
        have hmB : m < wB.heap.size := by have := HKB.out.size; omega
        have HOne : Hid (∀ u ∈ ptrsOf Q1.all, u.oneCell' = true) := Lib.hid fun u hu => by obtain ⟨x, _, rfl⟩ := List.mem_map.1 hu; rfl
        have HLp : Hid (([] : List Value).length + (ptrsOf Q1.all).length = Q1.all.length) := Lib.hid (by rw [ptrsOf_len]; simp)
        have HLq : Hid ((ptrsOf Q1.all).length = Q1.all.length) := Lib.hid (ptrsOf_len _)
        have hszA : (([] : List Value).length + (ptrsOf Q1.all).length) * (8 + 1) ≤ 140737488355328 := by rw [HLp.out]; omega
        have hszB : ((ptrsOf Q1.all).length + 1) * (8 + 1) ≤ 140737488355328 := by rw [HLq.out]; omega
        go_upto_region 38 with fail
        refine wp_region_held_drew (S := fun W => W.cell? ⟨m, 5, none⟩ = some (.int .i64 ck)) (by kernel_rfl) ?_ (fun hHeld => ?_)
        · exact (HC5.out _ .nilIface (Kept.drew Nob wB)).1
        have HK := Lib.hid (Kept.drew Nob wB)
        generalize wB.drew = v0 at *
        refine take_in (v := ?_) 0 (some 213) ?_ ?_
        case refine_2 => intro w hSw; go_simp; try with_reducible rfl
        try simp only [putS]
        refine take_in (v := ?_) 2 (some 215) ?_ ?_
        case refine_2 => intro w hSw; go_simp; try with_reducible rfl
        try simp only [putS]
        refine take_in (v := ?_) 3 (some 216) ?_ ?_
        case refine_2 => intro w hSw; go_simp; try with_reducible rfl
        try simp only [putS]
        refine take_in (v := ?_) 4 (some 217) ?_ ?_
        case refine_2 => intro w hSw; go_simp; try with_reducible rfl
        try simp only [putS]
        refine take_in (v := ?_) 7 (some 220) ?_ ?_
        case refine_2 => intro w hSw; go_simp; try with_reducible rfl
        try simp only [putS]
        refine take_in (v := ?_) 8 (some 221) ?_ ?_
        case refine_2 => intro w hSw; go_simp; try with_reducible rfl
        try simp only [putS]
        refine take_in (v := ?_) 9 (some 222) ?_ ?_
        case refine_2 => intro w hSw; go_simp; try with_reducible rfl
        try simp only [putS]
        refine take_in (v := ?_) 10 (some 223) ?_ ?_
        case refine_2 => intro w hSw; go_simp; try with_reducible rfl
        try simp only [putS]
        refine take_in (v := ?_) 11 (some 224) ?_ ?_
        case refine_2 => intro w hSw; go_simp; try with_reducible rfl
        try simp only [putS]
        refine take_in (v := ?_) 12 (some 225) ?_ ?_
        case refine_2 => intro w hSw; go_simp; try with_reducible rfl
        try simp only [putS]
        refine take_in (v := ?_) 13 (some 226) ?_ ?_
        case refine_2 => intro w hSw; go_simp; try with_reducible rfl
        try simp only [putS]
        apply meet6 (F := fun (be : Nat) (b5 : Option Addr) (c5 : Nat) (gx : Nat) (bb : Nat) (W : World) => (Hid (Kept Nob wB W)) ∧ (W.cell? ⟨m, 5, none⟩ = some (.int .i64 ck)) ∧ (Hid (Own W 150 (.slice b5 Q1.all.length c5) (ptrsOf Q1.all) (From wB.heap.size))) ∧ (Hid (W.heap[gx]? = some (.cells #[.int .i64 k, .pointer (some ⟨pg, 0, none⟩), .int .i64 1, .bool false, .int .i64 0, .int .i64 ck] 153 (0, 0)))) ∧ (wB.heap.size ≤ gx) ∧ (Hid (W.cell? ⟨bb, 0, none⟩ = some (.pointer (some ⟨gx, 0, none⟩)))))
        case h2 =>
         intro st_1_5_6_14_15
         apply meet5 (F := fun (be : Nat) (b5 : Option Addr) (c5 : Nat) (gx : Nat) (W : World) => (Hid (Kept Nob wB W)) ∧ (W.cell? ⟨m, 5, none⟩ = some (.int .i64 ck)) ∧ (Hid (Own W 150 (.slice b5 Q1.all.length c5) (ptrsOf Q1.all) (From wB.heap.size))) ∧ (Hid (W.heap[gx]? = some (.cells #[.int .i64 k, .pointer (some ⟨pg, 0, none⟩), .int .i64 1, .bool false, .int .i64 0, .int .i64 ck] 153 (0, 0)))) ∧ (wB.heap.size ≤ gx))
         case h2 =>
          intro st_1_5_6_14
          apply meet4 (F := fun (be : Nat) (gx : Nat) (bb : Nat) (W : World) => (Hid (Kept Nob wB W)) ∧ (W.cell? ⟨m, 5, none⟩ = some (.int .i64 ck)) ∧ (Hid (Own W 150 (.slice (some ⟨be, 0, none⟩) 0 0) [] (From wB.heap.size))) ∧ (Hid (W.heap[gx]? = some (.cells #[.int .i64 k, .pointer (some ⟨pg, 0, none⟩), .int .i64 1, .bool false, .int .i64 0, .int .i64 ck] 153 (0, 0)))) ∧ (wB.heap.size ≤ gx) ∧ (Hid (W.cell? ⟨bb, 0, none⟩ = some (.pointer (some ⟨gx, 0, none⟩)))) ∧ (bb ≠ be))
          case h2 =>
           intro st_1_5_14_15
           apply meet4 (F := fun (be : Nat) (b5 : Option Addr) (c5 : Nat) (W : World) => (Hid (Kept Nob wB W)) ∧ (W.cell? ⟨m, 5, none⟩ = some (.int .i64 ck)) ∧ (Hid (Own W 150 (.slice b5 Q1.all.length c5) (ptrsOf Q1.all) (From wB.heap.size))))
           case h2 =>
            intro st_1_5_6
            apply meet3 (F := fun (be : Nat) (gx : Nat) (W : World) => (Hid (Kept Nob wB W)) ∧ (W.cell? ⟨m, 5, none⟩ = some (.int .i64 ck)) ∧ (Hid (Own W 150 (.slice (some ⟨be, 0, none⟩) 0 0) [] (From wB.heap.size))) ∧ (Hid (W.heap[gx]? = some (.cells #[.int .i64 k, .pointer (some ⟨pg, 0, none⟩), .int .i64 1, .bool false, .int .i64 0, .int .i64 ck] 153 (0, 0)))) ∧ (wB.heap.size ≤ gx))
            case h2 =>
             intro st_1_5_14
             apply meet4 (F := fun (be : Nat) (gx : Nat) (bb : Nat) (W : World) => (Hid (Kept Nob wB W)) ∧ (W.cell? ⟨m, 5, none⟩ = some (.int .i64 ck)) ∧ (Hid (Own W 150 (.slice (some ⟨be, 0, none⟩) 0 0) [] (From wB.heap.size))) ∧ (Hid (W.heap[gx]? = some (.cells #[.int .i64 k, .pointer (some ⟨pg, 0, none⟩), .int .i64 1, .bool false, .int .i64 0, .int .i64 ck] 153 (0, 0)))) ∧ (wB.heap.size ≤ gx) ∧ (Hid (W.cell? ⟨bb, 0, none⟩ = some (.pointer (some ⟨gx, 0, none⟩)))) ∧ (bb ≠ be))
             case h2 =>
              intro st_1_14_15
              apply meet3 (F := fun (gx : Nat) (bb : Nat) (W : World) => (Hid (Kept Nob wB W)) ∧ (W.cell? ⟨m, 5, none⟩ = some (.int .i64 ck)) ∧ (Hid (W.heap[gx]? = some (.cells #[.int .i64 k, .pointer (some ⟨pg, 0, none⟩), .int .i64 1, .bool false, .int .i64 0, .int .i64 ck] 153 (0, 0)))) ∧ (wB.heap.size ≤ gx) ∧ (Hid (W.cell? ⟨bb, 0, none⟩ = some (.pointer (some ⟨gx, 0, none⟩)))))
              case h2 =>
               intro st_5_14_15
               apply meet2 (F := fun (be : Nat) (W : World) => (Hid (Kept Nob wB W)) ∧ (W.cell? ⟨m, 5, none⟩ = some (.int .i64 ck)) ∧ (Hid (Own W 150 (.slice (some ⟨be, 0, none⟩) 0 0) [] (From wB.heap.size))))
               case h2 =>
                intro st_1_5
                apply meet3 (F := fun (be : Nat) (gx : Nat) (W : World) => (Hid (Kept Nob wB W)) ∧ (W.cell? ⟨m, 5, none⟩ = some (.int .i64 ck)) ∧ (Hid (Own W 150 (.slice (some ⟨be, 0, none⟩) 0 0) [] (From wB.heap.size))) ∧ (Hid (W.heap[gx]? = some (.cells #[.int .i64 k, .pointer (some ⟨pg, 0, none⟩), .int .i64 1, .bool false, .int .i64 0, .int .i64 ck] 153 (0, 0)))) ∧ (wB.heap.size ≤ gx))
                case h2 =>
                 intro st_1_14
                 apply meet2 (F := fun (gx : Nat) (W : World) => (Hid (Kept Nob wB W)) ∧ (W.cell? ⟨m, 5, none⟩ = some (.int .i64 ck)) ∧ (Hid (W.heap[gx]? = some (.cells #[.int .i64 k, .pointer (some ⟨pg, 0, none⟩), .int .i64 1, .bool false, .int .i64 0, .int .i64 ck] 153 (0, 0)))) ∧ (wB.heap.size ≤ gx))
                 case h2 =>
                  intro st_5_14
                  apply meet3 (F := fun (gx : Nat) (bb : Nat) (W : World) => (Hid (Kept Nob wB W)) ∧ (W.cell? ⟨m, 5, none⟩ = some (.int .i64 ck)) ∧ (Hid (W.heap[gx]? = some (.cells #[.int .i64 k, .pointer (some ⟨pg, 0, none⟩), .int .i64 1, .bool false, .int .i64 0, .int .i64 ck] 153 (0, 0)))) ∧ (wB.heap.size ≤ gx) ∧ (Hid (W.cell? ⟨bb, 0, none⟩ = some (.pointer (some ⟨gx, 0, none⟩)))))
                  case h2 =>
                   intro st_14_15
                   apply meet2 (F := fun (be : Nat) (W : World) => (Hid (Kept Nob wB W)) ∧ (W.cell? ⟨m, 5, none⟩ = some (.int .i64 ck)) ∧ (Hid (Own W 150 (.slice (some ⟨be, 0, none⟩) 0 0) [] (From wB.heap.size))))
                   case h2 =>
                    intro st_1
                    apply meet1 (F := fun  (W : World) => (Hid (Kept Nob wB W)) ∧ (W.cell? ⟨m, 5, none⟩ = some (.int .i64 ck)))
                    case h2 =>
                     intro st_5
                     apply meet2 (F := fun (gx : Nat) (W : World) => (Hid (Kept Nob wB W)) ∧ (W.cell? ⟨m, 5, none⟩ = some (.int .i64 ck)) ∧ (Hid (W.heap[gx]? = some (.cells #[.int .i64 k, .pointer (some ⟨pg, 0, none⟩), .int .i64 1, .bool false, .int .i64 0, .int .i64 ck] 153 (0, 0)))) ∧ (wB.heap.size ≤ gx))
                     case h2 =>
                      intro st_14
                      refine wpAnyH_ready (rs := [1, 5, 14]) (by kernel_rfl) (by simp) ?_
                      refine AllReadyH.cons (o := _) rfl (fun K hK => ?_) (AllReadyH.cons (o := _) rfl (fun K hK => ?_) (AllReadyH.cons (o := _) rfl (fun K hK => ?_) AllReadyH.nil))
                      · have hmW : m < v0.heap.size := cell_lt hHeld
                        go_simp
                        have hka := Kept.alloc Nob v0 (.cells #[] 150)
                        have HKn := Lib.hid (HK.out.then hka)
                        have HErn : Hid (Own (v0.alloc (.cells #[] 150)) 150 (.slice (some ⟨v0.heap.size, 0, none⟩) 0 0) [] (From wB.heap.size)) := Lib.hid ((Own.empty_new v0 150).mono fun y _ h => Nat.le_trans HK.out.size h)
                        refine hK.out _ _ ((HC5.out _ .nilIface HKn.out).1) (fun hHeld => ?_)
                        clear hK K hka
                        try simp only [putS]
                        generalize v0.alloc (.cells #[] 150) = v1 at *
                        generalize v0.heap.size = be at *
                        have HK := HKn
                        clear HKn
                        have HEr := HErn
                        clear HErn
                        exact st_1 be v1 ⟨HK, hHeld, HEr⟩
                      · have c3 := (HC3.out _ HK.out).1
                        go_simp
                        refine hK.out _ _ (by assumption) (fun hHeld => ?_)
                        clear hK K c3
                        try simp only [putS]
                        exact st_5 v0 ⟨HK, hHeld⟩
                      · have hmW : m < v0.heap.size := cell_lt hHeld
                        go_simp
                        have hka := Kept.alloc Nob v0 (.cells #[.int .i64 k, .pointer (some ⟨pg, 0, none⟩), .int .i64 1, .bool false, .int .i64 0, .int .i64 ck] 153)
                        have HKn := Lib.hid (HK.out.then hka)
                        have HXn : Hid ((v0.alloc (.cells #[.int .i64 k, .pointer (some ⟨pg, 0, none⟩), .int .i64 1, .bool false, .int .i64 0, .int .i64 ck] 153)).heap[v0.heap.size]? = some (.cells #[.int .i64 k, .pointer (some ⟨pg, 0, none⟩), .int .i64 1, .bool false, .int .i64 0, .int .i64 ck] 153 (0, 0))) := Lib.hid (heap_alloc_new v0 _)
                        have hgx : wB.heap.size ≤ v0.heap.size := HK.out.size
                        refine hK.out _ _ ((HC5.out _ .nilIface HKn.out).1) (fun hHeld => ?_)
                        clear hK K hka
                        try simp only [putS]
                        generalize v0.alloc (.cells #[.int .i64 k, .pointer (some ⟨pg, 0, none⟩), .int .i64 1, .bool false, .int .i64 0, .int .i64 ck] 153) = v3 at *
                        generalize v0.heap.size = gx at *
                        have HK := HKn
                        clear HKn
                        have HX := HXn
                        clear HXn
                        exact st_14 gx v3 ⟨HK, hHeld, HX, hgx⟩
                     case h1 =>
                      intro gx W ⟨HK, hHeld, HX, hgx⟩
                      refine wpAnyH_ready (rs := [1, 5, 15]) (by kernel_rfl) (by simp) ?_
                      refine AllReadyH.cons (o := _) rfl (fun K hK => ?_) (AllReadyH.cons (o := _) rfl (fun K hK => ?_) (AllReadyH.cons (o := _) rfl (fun K hK => ?_) AllReadyH.nil))
                      · have hmW : m < W.heap.size := cell_lt hHeld
                        go_simp
                        have hka := Kept.alloc Nob W (.cells #[] 150)
                        have HKn := Lib.hid (HK.out.then hka)
                        have HXn := Lib.hid ((hka.block gx (Array.getElem?_eq_some_iff.1 HX.out).1 (fun f => f)).trans HX.out)
                        have HErn : Hid (Own (W.alloc (.cells #[] 150)) 150 (.slice (some ⟨W.heap.size, 0, none⟩) 0 0) [] (From wB.heap.size)) := Lib.hid ((Own.empty_new W 150).mono fun y _ h => Nat.le_trans HK.out.size h)
                        refine hK.out _ _ ((HC5.out _ .nilIface HKn.out).1) (fun hHeld => ?_)
                        clear hK K hka
                        try simp only [putS]
                        generalize W.alloc (.cells #[] 150) = v4 at *
                        generalize W.heap.size = be at *
                        have HK := HKn
                        clear HKn
                        have HEr := HErn
                        clear HErn
                        have HX := HXn
                        clear HXn
                        exact st_1_14 be gx v4 ⟨HK, hHeld, HEr, HX, hgx⟩
                      · have c3 := (HC3.out _ HK.out).1
                        go_simp
                        refine hK.out _ _ (by assumption) (fun hHeld => ?_)
                        clear hK K c3
                        try simp only [putS]
                        exact st_5_14 gx W ⟨HK, hHeld, HX, hgx⟩
                      · have hmW : m < W.heap.size := cell_lt hHeld
                        go_simp
                        have hka := Kept.alloc Nob W (.cells #[.pointer (some ⟨gx, 0, none⟩)] 150)
                        have HKn := Lib.hid (HK.out.then hka)
                        have HXn := Lib.hid ((hka.block gx (Array.getElem?_eq_some_iff.1 HX.out).1 (fun f => f)).trans HX.out)
                        have HBcn : Hid ((W.alloc (.cells #[.pointer (some ⟨gx, 0, none⟩)] 150)).cell? ⟨W.heap.size, 0, none⟩ = some (.pointer (some ⟨gx, 0, none⟩))) := Lib.hid (by simp)
                        refine hK.out _ _ ((HC5.out _ .nilIface HKn.out).1) (fun hHeld => ?_)
                        clear hK K hka
                        try simp only [putS]
                        generalize W.alloc (.cells #[.pointer (some ⟨gx, 0, none⟩)] 150) = v6 at *
                        generalize W.heap.size = bb at *
                        have HK := HKn
                        clear HKn
                        have HX := HXn
                        clear HXn
                        have HBc := HBcn
                        clear HBcn
                        exact st_14_15 gx bb v6 ⟨HK, hHeld, HX, hgx, HBc⟩
                    case h1 =>
                     intro  W ⟨HK, hHeld⟩
                     refine wpAnyH_ready (rs := [1, 14]) (by kernel_rfl) (by simp) ?_
                     refine AllReadyH.cons (o := _) rfl (fun K hK => ?_) (AllReadyH.cons (o := _) rfl (fun K hK => ?_) AllReadyH.nil)
                     · have hmW : m < W.heap.size := cell_lt hHeld
                       go_simp
                       have hka := Kept.alloc Nob W (.cells #[] 150)
                       have HKn := Lib.hid (HK.out.then hka)
                       have HErn : Hid (Own (W.alloc (.cells #[] 150)) 150 (.slice (some ⟨W.heap.size, 0, none⟩) 0 0) [] (From wB.heap.size)) := Lib.hid ((Own.empty_new W 150).mono fun y _ h => Nat.le_trans HK.out.size h)
                       refine hK.out _ _ ((HC5.out _ .nilIface HKn.out).1) (fun hHeld => ?_)
                       clear hK K hka
                       try simp only [putS]
                       generalize W.alloc (.cells #[] 150) = v7 at *
                       generalize W.heap.size = be at *
                       have HK := HKn
                       clear HKn
                       have HEr := HErn
                       clear HErn
                       exact st_1_5 be v7 ⟨HK, hHeld, HEr⟩
                     · have hmW : m < W.heap.size := cell_lt hHeld
                       go_simp
                       have hka := Kept.alloc Nob W (.cells #[.int .i64 k, .pointer (some ⟨pg, 0, none⟩), .int .i64 1, .bool false, .int .i64 0, .int .i64 ck] 153)
                       have HKn := Lib.hid (HK.out.then hka)
                       have HXn : Hid ((W.alloc (.cells #[.int .i64 k, .pointer (some ⟨pg, 0, none⟩), .int .i64 1, .bool false, .int .i64 0, .int .i64 ck] 153)).heap[W.heap.size]? = some (.cells #[.int .i64 k, .pointer (some ⟨pg, 0, none⟩), .int .i64 1, .bool false, .int .i64 0, .int .i64 ck] 153 (0, 0))) := Lib.hid (heap_alloc_new W _)
                       have hgx : wB.heap.size ≤ W.heap.size := HK.out.size
                       refine hK.out _ _ ((HC5.out _ .nilIface HKn.out).1) (fun hHeld => ?_)
                       clear hK K hka
                       try simp only [putS]
                       generalize W.alloc (.cells #[.int .i64 k, .pointer (some ⟨pg, 0, none⟩), .int .i64 1, .bool false, .int .i64 0, .int .i64 ck] 153) = v8 at *
                       generalize W.heap.size = gx at *
                       have HK := HKn
                       clear HKn
                       have HX := HXn
                       clear HXn
                       exact st_5_14 gx v8 ⟨HK, hHeld, HX, hgx⟩
                   case h1 =>
                    intro be W ⟨HK, hHeld, HEr⟩
                    refine wpAnyH_ready (rs := [5, 14]) (by kernel_rfl) (by simp) ?_
                    refine AllReadyH.cons (o := _) rfl (fun K hK => ?_) (AllReadyH.cons (o := _) rfl (fun K hK => ?_) AllReadyH.nil)
                    · have c3 := (HC3.out _ HK.out).1
                      go_simp
                      refine hK.out _ _ (by assumption) (fun hHeld => ?_)
                      clear hK K c3
                      try simp only [putS]
                      exact st_1_5 be W ⟨HK, hHeld, HEr⟩
                    · have hmW : m < W.heap.size := cell_lt hHeld
                      go_simp
                      have hka := Kept.alloc Nob W (.cells #[.int .i64 k, .pointer (some ⟨pg, 0, none⟩), .int .i64 1, .bool false, .int .i64 0, .int .i64 ck] 153)
                      have HKn := Lib.hid (HK.out.then hka)
                      have HErn := Lib.hid (HEr.out.alloc (.cells #[.int .i64 k, .pointer (some ⟨pg, 0, none⟩), .int .i64 1, .bool false, .int .i64 0, .int .i64 ck] 153))
                      have HXn : Hid ((W.alloc (.cells #[.int .i64 k, .pointer (some ⟨pg, 0, none⟩), .int .i64 1, .bool false, .int .i64 0, .int .i64 ck] 153)).heap[W.heap.size]? = some (.cells #[.int .i64 k, .pointer (some ⟨pg, 0, none⟩), .int .i64 1, .bool false, .int .i64 0, .int .i64 ck] 153 (0, 0))) := Lib.hid (heap_alloc_new W _)
                      have hgx : wB.heap.size ≤ W.heap.size := HK.out.size
                      refine hK.out _ _ ((HC5.out _ .nilIface HKn.out).1) (fun hHeld => ?_)
                      clear hK K hka
                      try simp only [putS]
                      generalize W.alloc (.cells #[.int .i64 k, .pointer (some ⟨pg, 0, none⟩), .int .i64 1, .bool false, .int .i64 0, .int .i64 ck] 153) = v10 at *
                      generalize W.heap.size = gx at *
                      have HK := HKn
                      clear HKn
                      have HEr := HErn
                      clear HErn
                      have HX := HXn
                      clear HXn
                      exact st_1_14 be gx v10 ⟨HK, hHeld, HEr, HX, hgx⟩
                  case h1 =>
                   intro gx bb W ⟨HK, hHeld, HX, hgx, HBc⟩
                   refine wpAnyH_ready (rs := [1, 5]) (by kernel_rfl) (by simp) ?_
                   refine AllReadyH.cons (o := _) rfl (fun K hK => ?_) (AllReadyH.cons (o := _) rfl (fun K hK => ?_) AllReadyH.nil)
                   · have hmW : m < W.heap.size := cell_lt hHeld
                     go_simp
                     have hka := Kept.alloc Nob W (.cells #[] 150)
                     have HKn := Lib.hid (HK.out.then hka)
                     have HXn := Lib.hid ((hka.block gx (Array.getElem?_eq_some_iff.1 HX.out).1 (fun f => f)).trans HX.out)
                     have HBcn := Lib.hid ((hka.cell (p := ⟨bb, 0, none⟩) (cell_lt HBc.out) (fun f => f)).trans HBc.out)
                     have HErn : Hid (Own (W.alloc (.cells #[] 150)) 150 (.slice (some ⟨W.heap.size, 0, none⟩) 0 0) [] (From wB.heap.size)) := Lib.hid ((Own.empty_new W 150).mono fun y _ h => Nat.le_trans HK.out.size h)
                     have hbe : bb ≠ W.heap.size := Nat.ne_of_lt (cell_lt HBc.out)
                     refine hK.out _ _ ((HC5.out _ .nilIface HKn.out).1) (fun hHeld => ?_)
                     clear hK K hka
                     try simp only [putS]
                     generalize W.alloc (.cells #[] 150) = v11 at *
                     generalize W.heap.size = be at *
                     have HK := HKn
                     clear HKn
                     have HEr := HErn
                     clear HErn
                     have HX := HXn
                     clear HXn
                     have HBc := HBcn
                     clear HBcn
                     exact st_1_14_15 be gx bb v11 ⟨HK, hHeld, HEr, HX, hgx, HBc, hbe⟩
                   · have c3 := (HC3.out _ HK.out).1
                     go_simp
                     refine hK.out _ _ (by assumption) (fun hHeld => ?_)
                     clear hK K c3
                     try simp only [putS]
                     exact st_5_14_15 gx bb W ⟨HK, hHeld, HX, hgx, HBc⟩
                 case h1 =>
                  intro gx W ⟨HK, hHeld, HX, hgx⟩
                  refine wpAnyH_ready (rs := [1, 15]) (by kernel_rfl) (by simp) ?_
                  refine AllReadyH.cons (o := _) rfl (fun K hK => ?_) (AllReadyH.cons (o := _) rfl (fun K hK => ?_) AllReadyH.nil)
                  · have hmW : m < W.heap.size := cell_lt hHeld
                    go_simp
                    have hka := Kept.alloc Nob W (.cells #[] 150)
                    have HKn := Lib.hid (HK.out.then hka)
                    have HXn := Lib.hid ((hka.block gx (Array.getElem?_eq_some_iff.1 HX.out).1 (fun f => f)).trans HX.out)
                    have HErn : Hid (Own (W.alloc (.cells #[] 150)) 150 (.slice (some ⟨W.heap.size, 0, none⟩) 0 0) [] (From wB.heap.size)) := Lib.hid ((Own.empty_new W 150).mono fun y _ h => Nat.le_trans HK.out.size h)
                    refine hK.out _ _ ((HC5.out _ .nilIface HKn.out).1) (fun hHeld => ?_)
                    clear hK K hka
                    try simp only [putS]
                    generalize W.alloc (.cells #[] 150) = v13 at *
                    generalize W.heap.size = be at *
                    have HK := HKn
                    clear HKn
                    have HEr := HErn
                    clear HErn
                    have HX := HXn
                    clear HXn
                    exact st_1_5_14 be gx v13 ⟨HK, hHeld, HEr, HX, hgx⟩
                  · have hmW : m < W.heap.size := cell_lt hHeld
                    go_simp
                    have hka := Kept.alloc Nob W (.cells #[.pointer (some ⟨gx, 0, none⟩)] 150)
                    have HKn := Lib.hid (HK.out.then hka)
                    have HXn := Lib.hid ((hka.block gx (Array.getElem?_eq_some_iff.1 HX.out).1 (fun f => f)).trans HX.out)
                    have HBcn : Hid ((W.alloc (.cells #[.pointer (some ⟨gx, 0, none⟩)] 150)).cell? ⟨W.heap.size, 0, none⟩ = some (.pointer (some ⟨gx, 0, none⟩))) := Lib.hid (by simp)
                    refine hK.out _ _ ((HC5.out _ .nilIface HKn.out).1) (fun hHeld => ?_)
                    clear hK K hka
                    try simp only [putS]
                    generalize W.alloc (.cells #[.pointer (some ⟨gx, 0, none⟩)] 150) = v14 at *
                    generalize W.heap.size = bb at *
                    have HK := HKn
                    clear HKn
                    have HX := HXn
                    clear HXn
                    have HBc := HBcn
                    clear HBcn
                    exact st_5_14_15 gx bb v14 ⟨HK, hHeld, HX, hgx, HBc⟩
                case h1 =>
                 intro be gx W ⟨HK, hHeld, HEr, HX, hgx⟩
                 refine wpAnyH_ready (rs := [5, 15]) (by kernel_rfl) (by simp) ?_
                 refine AllReadyH.cons (o := _) rfl (fun K hK => ?_) (AllReadyH.cons (o := _) rfl (fun K hK => ?_) AllReadyH.nil)
                 · have c3 := (HC3.out _ HK.out).1
                   go_simp
                   refine hK.out _ _ (by assumption) (fun hHeld => ?_)
                   clear hK K c3
                   try simp only [putS]
                   exact st_1_5_14 be gx W ⟨HK, hHeld, HEr, HX, hgx⟩
                 · have hmW : m < W.heap.size := cell_lt hHeld
                   go_simp
                   have hka := Kept.alloc Nob W (.cells #[.pointer (some ⟨gx, 0, none⟩)] 150)
                   have HKn := Lib.hid (HK.out.then hka)
                   have HErn := Lib.hid (HEr.out.alloc (.cells #[.pointer (some ⟨gx, 0, none⟩)] 150))
                   have HXn := Lib.hid ((hka.block gx (Array.getElem?_eq_some_iff.1 HX.out).1 (fun f => f)).trans HX.out)
                   have HBcn : Hid ((W.alloc (.cells #[.pointer (some ⟨gx, 0, none⟩)] 150)).cell? ⟨W.heap.size, 0, none⟩ = some (.pointer (some ⟨gx, 0, none⟩))) := Lib.hid (by simp)
                   have hbe : W.heap.size ≠ be := (Nat.ne_of_lt (HEr.out.blockLt rfl)).symm
                   refine hK.out _ _ ((HC5.out _ .nilIface HKn.out).1) (fun hHeld => ?_)
                   clear hK K hka
                   try simp only [putS]
                   generalize W.alloc (.cells #[.pointer (some ⟨gx, 0, none⟩)] 150) = v16 at *
                   generalize W.heap.size = bb at *
                   have HK := HKn
                   clear HKn
                   have HEr := HErn
                   clear HErn
                   have HX := HXn
                   clear HXn
                   have HBc := HBcn
                   clear HBcn
                   exact st_1_14_15 be gx bb v16 ⟨HK, hHeld, HEr, HX, hgx, HBc, hbe⟩
               case h1 =>
                intro be W ⟨HK, hHeld, HEr⟩
                refine wpAnyH_ready (rs := [6, 14]) (by kernel_rfl) (by simp) ?_
                refine AllReadyH.cons (o := _) rfl (fun K hK => ?_) (AllReadyH.cons (o := _) rfl (fun K hK => ?_) AllReadyH.nil)
                · refine step_append_pg rfl _ _ 115 rfl tHelds (.slice (some ⟨be, 0, none⟩) 0 0) (.slice ha Q1.all.length hca) [] (ptrsOf Q1.all) _ _ rfl rfl HEr.out (HRB.out _ HK.out) HOne.out hszA ?_
                  intro b5 c5 v17 ho5 hk5
                  rw [HLp.out] at ho5 ⊢
                  rw [List.nil_append] at ho5
                  have hbge : wB.heap.size ≤ be := HEr.out.2 be rfl
                  have HKn : Hid (Kept Nob wB v17) := Lib.hid (HK.out.from (Nat.le_refl _) (hk5.mono fun y _ e => by simp [Value.ownBlock] at e; show _ ≤ _; omega))
                  have HArn : Hid (Own v17 150 (.slice b5 Q1.all.length c5) (ptrsOf Q1.all) (From wB.heap.size)) := Lib.hid (ho5.mono fun y _ e => by rcases e with e | e; (simp [Value.ownBlock] at e; show _ ≤ _; omega); exact Nat.le_trans HK.out.size e)
                  clear ho5 hk5
                  refine hK.out _ _ ((HC5.out _ .nilIface HKn.out).1) (fun hHeld => ?_)
                  clear hK K
                  try simp only [putS]
                  have HK := HKn
                  clear HKn
                  have HAr := HArn
                  clear HArn
                  exact st_1_5_6 be b5 c5 v17 ⟨HK, hHeld, HAr⟩
                · have hmW : m < W.heap.size := cell_lt hHeld
                  go_simp
                  have hka := Kept.alloc Nob W (.cells #[.int .i64 k, .pointer (some ⟨pg, 0, none⟩), .int .i64 1, .bool false, .int .i64 0, .int .i64 ck] 153)
                  have HKn := Lib.hid (HK.out.then hka)
                  have HErn := Lib.hid (HEr.out.alloc (.cells #[.int .i64 k, .pointer (some ⟨pg, 0, none⟩), .int .i64 1, .bool false, .int .i64 0, .int .i64 ck] 153))
                  have HXn : Hid ((W.alloc (.cells #[.int .i64 k, .pointer (some ⟨pg, 0, none⟩), .int .i64 1, .bool false, .int .i64 0, .int .i64 ck] 153)).heap[W.heap.size]? = some (.cells #[.int .i64 k, .pointer (some ⟨pg, 0, none⟩), .int .i64 1, .bool false, .int .i64 0, .int .i64 ck] 153 (0, 0))) := Lib.hid (heap_alloc_new W _)
                  have hgx : wB.heap.size ≤ W.heap.size := HK.out.size
                  refine hK.out _ _ ((HC5.out _ .nilIface HKn.out).1) (fun hHeld => ?_)
                  clear hK K hka
                  try simp only [putS]
                  generalize W.alloc (.cells #[.int .i64 k, .pointer (some ⟨pg, 0, none⟩), .int .i64 1, .bool false, .int .i64 0, .int .i64 ck] 153) = v18 at *
                  generalize W.heap.size = gx at *
                  have HK := HKn
                  clear HKn
                  have HEr := HErn
                  clear HErn
                  have HX := HXn
                  clear HXn
                  exact st_1_5_14 be gx v18 ⟨HK, hHeld, HEr, HX, hgx⟩
              case h1 =>
               intro gx bb W ⟨HK, hHeld, HX, hgx, HBc⟩
               refine wpAnyH_ready (rs := [1]) (by kernel_rfl) (by simp) ?_
               refine AllReadyH.cons (o := _) rfl (fun K hK => ?_) AllReadyH.nil
               · have hmW : m < W.heap.size := cell_lt hHeld
                 go_simp
                 have hka := Kept.alloc Nob W (.cells #[] 150)
                 have HKn := Lib.hid (HK.out.then hka)
                 have HXn := Lib.hid ((hka.block gx (Array.getElem?_eq_some_iff.1 HX.out).1 (fun f => f)).trans HX.out)
                 have HBcn := Lib.hid ((hka.cell (p := ⟨bb, 0, none⟩) (cell_lt HBc.out) (fun f => f)).trans HBc.out)
                 have HErn : Hid (Own (W.alloc (.cells #[] 150)) 150 (.slice (some ⟨W.heap.size, 0, none⟩) 0 0) [] (From wB.heap.size)) := Lib.hid ((Own.empty_new W 150).mono fun y _ h => Nat.le_trans HK.out.size h)
                 have hbe : bb ≠ W.heap.size := Nat.ne_of_lt (cell_lt HBc.out)
                 refine hK.out _ _ ((HC5.out _ .nilIface HKn.out).1) (fun hHeld => ?_)
                 clear hK K hka
                 try simp only [putS]
                 generalize W.alloc (.cells #[] 150) = v19 at *
                 generalize W.heap.size = be at *
                 have HK := HKn
                 clear HKn
                 have HEr := HErn
                 clear HErn
                 have HX := HXn
                 clear HXn
                 have HBc := HBcn
                 clear HBcn
                 exact st_1_5_14_15 be gx bb v19 ⟨HK, hHeld, HEr, HX, hgx, HBc, hbe⟩
             case h1 =>
              intro be gx bb W ⟨HK, hHeld, HEr, HX, hgx, HBc, hbe⟩
              refine wpAnyH_ready (rs := [5]) (by kernel_rfl) (by simp) ?_
              refine AllReadyH.cons (o := _) rfl (fun K hK => ?_) AllReadyH.nil
              · have c3 := (HC3.out _ HK.out).1
                go_simp
                refine hK.out _ _ (by assumption) (fun hHeld => ?_)
                clear hK K c3
                try simp only [putS]
                exact st_1_5_14_15 be gx bb W ⟨HK, hHeld, HEr, HX, hgx, HBc, hbe⟩
            case h1 =>
             intro be gx W ⟨HK, hHeld, HEr, HX, hgx⟩
             refine wpAnyH_ready (rs := [6, 15]) (by kernel_rfl) (by simp) ?_
             refine AllReadyH.cons (o := _) rfl (fun K hK => ?_) (AllReadyH.cons (o := _) rfl (fun K hK => ?_) AllReadyH.nil)
             · refine step_append_pg rfl _ _ 115 rfl tHelds (.slice (some ⟨be, 0, none⟩) 0 0) (.slice ha Q1.all.length hca) [] (ptrsOf Q1.all) _ _ rfl rfl HEr.out (HRB.out _ HK.out) HOne.out hszA ?_
               intro b5 c5 v21 ho5 hk5
               rw [HLp.out] at ho5 ⊢
               rw [List.nil_append] at ho5
               have hbge : wB.heap.size ≤ be := HEr.out.2 be rfl
               have HKn : Hid (Kept Nob wB v21) := Lib.hid (HK.out.from (Nat.le_refl _) (hk5.mono fun y _ e => by simp [Value.ownBlock] at e; show _ ≤ _; omega))
               have HArn : Hid (Own v21 150 (.slice b5 Q1.all.length c5) (ptrsOf Q1.all) (From wB.heap.size)) := Lib.hid (ho5.mono fun y _ e => by rcases e with e | e; (simp [Value.ownBlock] at e; show _ ≤ _; omega); exact Nat.le_trans HK.out.size e)
               have HXn := Lib.hid ((hk5.block gx (Array.getElem?_eq_some_iff.1 HX.out).1 (HEr.out.not_in HX.out (by decide))).trans HX.out)
               clear ho5 hk5
               refine hK.out _ _ ((HC5.out _ .nilIface HKn.out).1) (fun hHeld => ?_)
               clear hK K
               try simp only [putS]
               have HK := HKn
               clear HKn
               have HAr := HArn
               clear HArn
               have HX := HXn
               clear HXn
               exact st_1_5_6_14 be b5 c5 gx v21 ⟨HK, hHeld, HAr, HX, hgx⟩
             · have hmW : m < W.heap.size := cell_lt hHeld
               go_simp
               have hka := Kept.alloc Nob W (.cells #[.pointer (some ⟨gx, 0, none⟩)] 150)
               have HKn := Lib.hid (HK.out.then hka)
               have HErn := Lib.hid (HEr.out.alloc (.cells #[.pointer (some ⟨gx, 0, none⟩)] 150))
               have HXn := Lib.hid ((hka.block gx (Array.getElem?_eq_some_iff.1 HX.out).1 (fun f => f)).trans HX.out)
               have HBcn : Hid ((W.alloc (.cells #[.pointer (some ⟨gx, 0, none⟩)] 150)).cell? ⟨W.heap.size, 0, none⟩ = some (.pointer (some ⟨gx, 0, none⟩))) := Lib.hid (by simp)
               have hbe : W.heap.size ≠ be := (Nat.ne_of_lt (HEr.out.blockLt rfl)).symm
               refine hK.out _ _ ((HC5.out _ .nilIface HKn.out).1) (fun hHeld => ?_)
               clear hK K hka
               try simp only [putS]
               generalize W.alloc (.cells #[.pointer (some ⟨gx, 0, none⟩)] 150) = v22 at *
               generalize W.heap.size = bb at *
               have HK := HKn
               clear HKn
               have HEr := HErn
               clear HErn
               have HX := HXn
               clear HXn
               have HBc := HBcn
               clear HBcn
               exact st_1_5_14_15 be gx bb v22 ⟨HK, hHeld, HEr, HX, hgx, HBc, hbe⟩
           case h1 =>
            intro be b5 c5 W ⟨HK, hHeld, HAr⟩
            refine wpAnyH_ready (rs := [14]) (by kernel_rfl) (by simp) ?_
            refine AllReadyH.cons (o := _) rfl (fun K hK => ?_) AllReadyH.nil
            · have hmW : m < W.heap.size := cell_lt hHeld
              go_simp
              have hka := Kept.alloc Nob W (.cells #[.int .i64 k, .pointer (some ⟨pg, 0, none⟩), .int .i64 1, .bool false, .int .i64 0, .int .i64 ck] 153)
              have HKn := Lib.hid (HK.out.then hka)
              have HArn := Lib.hid (HAr.out.alloc (.cells #[.int .i64 k, .pointer (some ⟨pg, 0, none⟩), .int .i64 1, .bool false, .int .i64 0, .int .i64 ck] 153))
              have HXn : Hid ((W.alloc (.cells #[.int .i64 k, .pointer (some ⟨pg, 0, none⟩), .int .i64 1, .bool false, .int .i64 0, .int .i64 ck] 153)).heap[W.heap.size]? = some (.cells #[.int .i64 k, .pointer (some ⟨pg, 0, none⟩), .int .i64 1, .bool false, .int .i64 0, .int .i64 ck] 153 (0, 0))) := Lib.hid (heap_alloc_new W _)
              have hgx : wB.heap.size ≤ W.heap.size := HK.out.size
              refine hK.out _ _ ((HC5.out _ .nilIface HKn.out).1) (fun hHeld => ?_)
              clear hK K hka
              try simp only [putS]
              generalize W.alloc (.cells #[.int .i64 k, .pointer (some ⟨pg, 0, none⟩), .int .i64 1, .bool false, .int .i64 0, .int .i64 ck] 153) = v23 at *
              generalize W.heap.size = gx at *
              have HK := HKn
              clear HKn
              have HAr := HArn
              clear HArn
              have HX := HXn
              clear HXn
              exact st_1_5_6_14 be b5 c5 gx v23 ⟨HK, hHeld, HAr, HX, hgx⟩
          case h1 =>
           intro be gx bb W ⟨HK, hHeld, HEr, HX, hgx, HBc, hbe⟩
           refine wpAnyH_ready (rs := [6]) (by kernel_rfl) (by simp) ?_
           refine AllReadyH.cons (o := _) rfl (fun K hK => ?_) AllReadyH.nil
           · refine step_append_pg rfl _ _ 115 rfl tHelds (.slice (some ⟨be, 0, none⟩) 0 0) (.slice ha Q1.all.length hca) [] (ptrsOf Q1.all) _ _ rfl rfl HEr.out (HRB.out _ HK.out) HOne.out hszA ?_
             intro b5 c5 v24 ho5 hk5
             rw [HLp.out] at ho5 ⊢
             rw [List.nil_append] at ho5
             have hbge : wB.heap.size ≤ be := HEr.out.2 be rfl
             have HKn : Hid (Kept Nob wB v24) := Lib.hid (HK.out.from (Nat.le_refl _) (hk5.mono fun y _ e => by simp [Value.ownBlock] at e; show _ ≤ _; omega))
             have HArn : Hid (Own v24 150 (.slice b5 Q1.all.length c5) (ptrsOf Q1.all) (From wB.heap.size)) := Lib.hid (ho5.mono fun y _ e => by rcases e with e | e; (simp [Value.ownBlock] at e; show _ ≤ _; omega); exact Nat.le_trans HK.out.size e)
             have HXn := Lib.hid ((hk5.block gx (Array.getElem?_eq_some_iff.1 HX.out).1 (HEr.out.not_in HX.out (by decide))).trans HX.out)
             have HBcn := Lib.hid ((hk5.cell (p := ⟨bb, 0, none⟩) (cell_lt HBc.out) (fun e => by simp [Value.ownBlock] at e; exact hbe e.symm)).trans HBc.out)
             clear ho5 hk5
             refine hK.out _ _ ((HC5.out _ .nilIface HKn.out).1) (fun hHeld => ?_)
             clear hK K
             try simp only [putS]
             have HK := HKn
             clear HKn
             have HAr := HArn
             clear HArn
             have HX := HXn
             clear HXn
             have HBc := HBcn
             clear HBcn
             exact st_1_5_6_14_15 be b5 c5 gx bb v24 ⟨HK, hHeld, HAr, HX, hgx, HBc⟩
         case h1 =>
          intro be b5 c5 gx W ⟨HK, hHeld, HAr, HX, hgx⟩
          refine wpAnyH_ready (rs := [15]) (by kernel_rfl) (by simp) ?_
          refine AllReadyH.cons (o := _) rfl (fun K hK => ?_) AllReadyH.nil
          · have hmW : m < W.heap.size := cell_lt hHeld
            go_simp
            have hka := Kept.alloc Nob W (.cells #[.pointer (some ⟨gx, 0, none⟩)] 150)
            have HKn := Lib.hid (HK.out.then hka)
            have HArn := Lib.hid (HAr.out.alloc (.cells #[.pointer (some ⟨gx, 0, none⟩)] 150))
            have HXn := Lib.hid ((hka.block gx (Array.getElem?_eq_some_iff.1 HX.out).1 (fun f => f)).trans HX.out)
            have HBcn : Hid ((W.alloc (.cells #[.pointer (some ⟨gx, 0, none⟩)] 150)).cell? ⟨W.heap.size, 0, none⟩ = some (.pointer (some ⟨gx, 0, none⟩))) := Lib.hid (by simp)
            refine hK.out _ _ ((HC5.out _ .nilIface HKn.out).1) (fun hHeld => ?_)
            clear hK K hka
            try simp only [putS]
            generalize W.alloc (.cells #[.pointer (some ⟨gx, 0, none⟩)] 150) = v25 at *
            generalize W.heap.size = bb at *
            have HK := HKn
            clear HKn
            have HAr := HArn
            clear HArn
            have HX := HXn
            clear HXn
            have HBc := HBcn
            clear HBcn
            exact st_1_5_6_14_15 be b5 c5 gx bb v25 ⟨HK, hHeld, HAr, HX, hgx, HBc⟩
        case h1 =>
         intro be b5 c5 gx bb W ⟨HK, hHeld, HAr, HX, hgx, HBc⟩
         refine wpAnyH_ready (rs := [16]) (by kernel_rfl) (by simp) ?_
         refine AllReadyH.cons (o := _) rfl (fun K hK => ?_) AllReadyH.nil
         · refine step_append1_pg rfl _ _ 115 rfl tHelds (.slice b5 Q1.all.length c5) (ptrsOf Q1.all) (.pointer (some ⟨gx, 0, none⟩)) _ ⟨bb, 0, none⟩ 1 rfl rfl HAr.out HBc.out rfl (Nat.le_refl _) rfl hszB ?_
           intro g6 c6 v26 ho6 hk6
           rw [HLq.out] at ho6 ⊢
           have HKn : Hid (Kept Nob wB v26) := Lib.hid (HK.out.from (Nat.le_refl _) (hk6.mono fun y _ e => HAr.out.2 y e))
           have HOn : Hid (Own v26 150 (.slice (some ⟨g6, 0, none⟩) (Q1.all.length + 1) c6) (ptrsOf Q1.all ++ [.pointer (some ⟨gx, 0, none⟩)]) (From wB.heap.size)) := Lib.hid (ho6.mono fun y _ e => e.elim (fun e => HAr.out.2 y e) (fun e => Nat.le_trans HK.out.size e))
           have HXn := Lib.hid ((hk6.block gx (Array.getElem?_eq_some_iff.1 HX.out).1 (HAr.out.not_in HX.out (by decide))).trans HX.out)
           clear ho6 hk6
           refine hK.out _ _ ((HC5.out _ .nilIface HKn.out).1) (fun hHeld => ?_)
           clear hK K
           try simp only [putS]
           refine take_in (v := ?_) 17 (some 230) ?_ ?_
           case refine_2 => intro w hSw; go_simp; try with_reducible rfl
           try simp only [putS]
           refine take_in (v := ?_) 18 (some 231) ?_ ?_
           case refine_2 => intro w hSw; go_simp; try with_reducible rfl
           try simp only [putS]
           refine wpAnyH_ready (rs := [19]) (by kernel_rfl) (by simp) ?_
           refine AllReadyH.cons (o := _) rfl (fun K hK => ?_) AllReadyH.nil
           have c3 := (HC3.out _ HKn.out).1
           have f3 := (HC3.out _ HKn.out).2
           go_simp
           refine hK.out _ _ ((HC5.out _ _ HKn.out).2) (fun hHeld => ?_)
           clear hK K c3 f3
           try simp only [putS]
           refine wpAnyH_done (by kernel_rfl) ?_ _
           go_wp2_with fail
           go_ret2
           refine HMi.out _ _ ⟨(fun h => by rw [HRo.out] at h; cases h), fun p2 hp2 => ?_⟩
           rw [HRo.out] at hp2
           obtain rfl := Option.some.inj hp2
           refine RetDNew.make A1.out A2.out A3.out A4.out A5.out A6.out A7.out A8.out A9.out hmd HKB.out HKn.out HPg.out HPg1.out HR2.out ?_ hgx HOn.out HNk.out
           rw [HXn.out, ← HCk.out, HE4.out]; rfl
end Go.Proofs.YthppgchmamonnaaGreatDoor
