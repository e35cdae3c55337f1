/- The document's live pool: Pin of a page that is not held. Both pools side by side: Pin. Both pools side by side: a page's content, Insert; what is held. Both pools side by side: as they are opened. The law of both pools: open. -/
import Derived.Test.YthppgchmamonnaaGreatDoorPq12
import Derived.Test.YthppgchmamonnaaGreatDoorPq15
import Derived.Test.YthppgchmamonnaaGreatDoorPq19
import Derived.Test.YthppgchmamonnaaGreatDoorPq36
import Derived.Test.YthppgchmamonnaaGreatDoorPq37
import Derived.Test.YthppgchmamonnaaGreatDoorPq39
namespace Go.Proofs.YthppgchmamonnaaGreatDoor
open Go.RowKit
section
variable {w0 w : World} {md m : Nat} {d : Dsk} {Q : DPl} {K Z : Nat → Prop} {con : Nat → PgM}
def RetDGot (w0 w : World) (md m : Nat) (Z K : Nat → Prop) (con : Nat → PgM) (k clock : Nat) (d : Dsk) (Q : DPl) (p : PgM) (e : Ending) (w' : World) : Prop :=
  ∃ g pg, e = .returned (.tuple #[.pointer (some ⟨pg, 0, none⟩), .int .i64 0]) ∧ ¬ K pg ∧ w.heap.size ≤ pg ∧ DLiveTo w0 w md m Z d (({ Q with reads := Q.reads + 1 } : DPl).add ⟨k, g, pg, 1, false, 0, clock⟩) (fun x => K x ∨ x = pg) (fun x => if x = pg then p else con x) w'
theorem DLive.miss (h : DLive w0 w md m d Q K con Z) (k : Nat) (hno : Q.find k = none) (hkp : k < Q.pages)
    (hc : Q.clock ≤ 1000000000) (hr : Q.reads ≤ 1000000000) (hw : Q.wrote ≤ 1000000000) (ho : d.ops ≤ 1000000000) (d1 : Dsk) (Q1 : DPl) (c1 : Nat) (hE : DPl.evictA con { Q with clock := Q.clock + 1 } d = (d1, Q1, c1)) (hby : ∀ u ∈ Wal.flat d1.now (8 * k) 8, ∃ n : Int, u = .int .u8 n ∧ 0 ≤ n ∧ n < 256)
    (hroom : c1 = 0 → Q1.all.length < Q.room) :
    Calls Tryz.prog 49 #[.pointer (some ⟨m, 0, none⟩), .int .i64 k] w fun e w' =>
      (c1 ≠ 0 → e = .returned (.tuple #[.pointer none, .int .i64 c1]) ∧ DLiveTo w0 w md m Z d1 Q1 K con w') ∧
      (c1 = 0 → pageIn d1 k = none → e = .returned (.tuple #[.pointer none, .int .i64 10]) ∧ DLiveTo w0 w md m Z d1 { Q1 with reads := Q1.reads + 1 } K con w') ∧
      (c1 = 0 → ∀ p, pageIn d1 k = some p → p.Fine → p.id = (k : Int) → RetDGot w0 w md m Z K con k (Q.clock + 1) d1 Q1 p e w') := by
  obtain ⟨DR, S, R, L, hZ⟩ := h
  have hlen := L.len
  have hrm := L.room
  have hpg := L.pages
  have hfit := L.fit
  have hmd := L.disk.lt
  obtain ⟨e1, e2, e3, e4, e5, e6, e7, e8, e9, e10, e11⟩ := DPl.evictA_facts con { Q with clock := Q.clock + 1 } d
  have hby2 := hby
  rw [show d1 = (DPl.evictA con { Q with clock := Q.clock + 1 } d).1 from by rw [hE]] at hby2
  refine (dpool_pin_miss w m md Q S L.pool L.under (by omega) d DR L.disk L.SD L.Dm L.Sd L.mmd con (fun x hx => ?_) hrm (by omega) (by omega) (by omega) (by omega) k hkp (by omega) (by omega) hno hby2).mono ?_
  · have hK := (L.held x hx).1
    obtain ⟨hpa, hfi⟩ := L.page _ hK
    have h1 := L.far _ hK _ (.inl rfl)
    have hn := L.keyed x hx
    have hl := L.last x hx
    exact ⟨R x.pg, hpa, h1.2.2.1, h1.2.2.2.1, fun e => (L.far _ hK m (.inr e)).2.2.1 rfl, fun e => (L.far _ hK md (.inr e)).2.2.2.1 rfl, ⟨hfi.good.len, fun s hs => Nat.le_trans (hfi.good.size s hs) (by omega)⟩, hfi.good.used, hfi.good.id.1, hfi.good.id.2, by omega, by omega⟩
  · intro e w' hm
    unfold RetDMiss at hm
    simp only [hE] at hm e1 e2 e3 e4 e5 e6 e7 e8 e9 e10 e11
    obtain ⟨hm1, hm2⟩ := hm
    have key : ∀ (d' : Dsk) (Q' : DPl), DSt w m md S DR Q' d' w' → d'.good.length = d.good.length → Q'.pages = Q.pages → Q'.room = Q.room → (∀ x ∈ Q'.all, x ∈ Q.all) → Q.clock ≤ Q'.clock → Q'.all.length ≤ Q.all.length → DLiveTo w0 w md m Z d' Q' K con w' := by
      rintro d' Q' ⟨S', R', q1, q2, q3, q4, q5, q6, q7, q8, q9⟩ a1 a2 a3 a4 a5 a6
      refine ⟨fun x => Z x ∨ w.heap.size ≤ x, ⟨R', S', R, L.next q1 q2 q4 q9 q3 q5 q6 q7 q8 (fun x _ q => q.elim .inl fun q => .inr (.inl q)) a1 a2 a3 (fun x hx => L.keyed x (a4 x hx)) (fun x hx => Nat.le_trans (L.last x (a4 x hx)) a5) (by omega) (fun y hy => L.held y (a4 y hy)), fun x hx => ?_⟩, fun x hx => hx, q9.mono fun x _ q => hZ x (q.elim (fun q => .inr (.inr (.inl q))) fun q => .inr (.inr (.inr (.inl q))))⟩
      rcases hx with q | q | q
      · exact (q3 x q).imp (fun q => hZ x (.inl q)) (fun q => q)
      · exact (q5 x q).imp (fun q => hZ x (.inr (.inl q))) (fun q => q)
      · exact .inl (hZ x (.inr (.inr q)))
    refine ⟨fun hc1 => ?_, fun hc1 hp => ?_, fun hc1 p hp hfi hid => ?_⟩
    · obtain ⟨rfl, hst⟩ := hm1 hc1
      exact ⟨rfl, key d1 Q1 hst e1 e2 e3 e9 (by omega) e10⟩
    · obtain ⟨rfl, hst⟩ := (hm2 hc1).1 hp
      exact ⟨rfl, key d1 _ hst e1 e2 e3 e9 (by show Q.clock ≤ Q1.clock; omega) e10⟩
    · obtain ⟨pg, g, R2, rfl, hpa, hp1, hp2, hR2, hg, S', R', q1, q2, q3, q4, q5, q6, q7, q8, q9, q10, q11, q12, q13⟩ := (hm2 hc1).2 p hp
      have hml := L.pool.lt
      have h0 := L.kept.size
      have hs := q9.size
      have hKl : ∀ x, K x → ∀ y, (y = x ∨ R x y) → y < w.heap.size := fun x hx y hy => (L.far x hx y hy).2.2.2.2.2
      have hnK : ¬ K pg := fun q => by have := hKl pg q pg (.inl rfl); omega
      have hx : ∀ x, K x → ∀ y, (y = x ∨ R x y) → ¬ (y = m ∨ y = md) := fun x hK y hy hg => by
        obtain ⟨f1, f2, f3, f4, -, f6⟩ := L.far x hK y hy
        exact hg.elim f3 f4
      have hnR2 : ¬ R2 pg := by obtain ⟨_, _, _, _, _, q⟩ := hpa; exact q
      refine ⟨g, pg, rfl, hnK, hp1, fun x => Z x ∨ w.heap.size ≤ x, ⟨R', S', fun x y => if x = pg then R2 y else R x y, ⟨q1, q2, q4, ?_, fun x hx => ?_, fun x hx => ?_, ?_, ?_, fun x hx' => ?_, fun y hy => ?_, fun x hx' y hy => ?_, fun x y hx1 hy1 hne => ?_, L.mmd, q6, q7, q8, fun x hx => ?_, L.kept.trans q9 fun x hx' hg' => ?_⟩, fun x hx' => ?_⟩, fun x hx => hx, q9.mono fun x _ q => hZ x (q.elim (fun q => .inr (.inr (.inl q))) fun q => .inr (.inr (.inr (.inl q))))⟩
      · show 8 * Q1.pages ≤ _
        omega
      · show x.n < Q1.pages
        rcases List.mem_append.1 hx with hx | hx
        · have := L.keyed x (e9 x hx); omega
        · rw [List.mem_singleton] at hx; subst hx; show k < _; omega
      · show x.last ≤ Q1.clock
        rcases List.mem_append.1 hx with hx | hx
        · have := L.last x (e9 x hx); omega
        · rw [List.mem_singleton] at hx; subst hx; show Q.clock + 1 ≤ _; omega
      · show (Q1.all ++ [_]).length ≤ Q1.room
        have := hroom hc1
        rw [List.length_append]; simp; omega
      · show Q1.room ≤ 100
        omega
      · by_cases hxp : x = pg
        · subst hxp
          simp only [if_true]
          exact ⟨hpa, hfi⟩
        · simp only [if_neg hxp]
          have hK := hx'.resolve_right hxp
          exact ⟨(L.page x hK).1.kept q9 (hx x hK x (.inl rfl)) (fun y hy => hx x hK y (.inr hy)), (L.page x hK).2⟩
      · rcases List.mem_append.1 hy with hy | hy
        · have hh := L.held y (e9 y hy)
          have hne : y.pg ≠ pg := fun e => hnK (e ▸ hh.1)
          rw [if_neg hne]
          exact ⟨.inl hh.1, hh.2⟩
        · rw [List.mem_singleton] at hy; subst hy
          exact ⟨.inr rfl, by show (if pg = pg then p else con pg).id = _; rw [if_pos rfl]; exact hid⟩
      · by_cases hxp : x = pg
        · subst hxp
          simp only [if_true] at hy
          rcases hy with rfl | hy
          · exact ⟨q10, q11, by omega, by omega, by omega, hp2⟩
          · have := hR2 y hy
            exact ⟨q12 y hy, q13 y hy, by omega, by omega, by omega, this.2⟩
        · simp only [if_neg hxp] at hy
          have hK := hx'.resolve_right hxp
          obtain ⟨f1, f2, f3, f4, f5, f6⟩ := L.far x hK y hy
          exact ⟨fun q => (q3 y q).elim f1 (fun q => by omega), fun q => (q5 y q).elim f2 (fun q => by omega), f3, f4, f5, by omega⟩
      · by_cases hxp : x = pg
        · have hyp : y ≠ pg := fun e => hne (hxp.trans e.symm)
          have hKy := hy1.resolve_right hyp
          simp only [if_pos hxp, if_neg hyp]
          exact ⟨fun z hz hz2 => by have := (hR2 z hz).1; have := hKl y hKy z (.inr hz2); omega, fun hz => by have := (hR2 y hz).1; have := hKl y hKy y (.inl rfl); omega⟩
        · have hKx := hx1.resolve_right hxp
          simp only [if_neg hxp]
          by_cases hyp : y = pg
          · refine ⟨fun z hz hz2 => ?_, fun hz => ?_⟩
            · simp only [if_pos hyp] at hz2
              have := (hR2 z hz2).1; have := hKl x hKx z (.inr hz); omega
            · have := hKl x hKx y (.inr hz); omega
          · have hKy := hy1.resolve_right hyp
            simp only [if_neg hyp]
            exact L.apart x y hKx hKy hne
      · rcases hx with q | q | q
        · exact (q3 x q).elim (fun q => L.new x (.inl q)) (fun q => by omega)
        · exact (q5 x q).elim (fun q => L.new x (.inr (.inl q))) (fun q => by omega)
        · exact L.new x (.inr (.inr q))
      · have := L.new x (hg'.elim (fun q => .inr (.inr (.inl q))) fun q => .inr (.inr (.inr q)))
        omega
      · rcases hx' with q | q | q | q | ⟨y, hy, q⟩
        · exact (q3 x q).imp (fun q => hZ x (.inl q)) (fun q => q)
        · exact (q5 x q).imp (fun q => hZ x (.inr (.inl q))) (fun q => q)
        · exact .inl (hZ x (.inr (.inr (.inl q))))
        · exact .inl (hZ x (.inr (.inr (.inr (.inl q)))))
        · by_cases hyp : y = pg
          · simp only [if_pos hyp] at q
            rcases q with q | q
            · exact .inr (by omega)
            · exact .inr (hR2 x q).1
          · simp only [if_neg hyp] at q
            exact .inl (hZ x (.inr (.inr (.inr (.inr ⟨y, hy.resolve_right hyp, q⟩)))))
end
theorem Pl.evictA_byt (P : Pl) (con : Nat → PgM) (d : Dsk) (hb : d.Byt) (hf : ∀ p ∈ P.all, (con p.2.pg).Fine) : (P.evictA con d).1.Byt := by
  unfold Pl.evictA
  by_cases hl : P.all.length < P.room
  · rw [if_pos hl]; exact hb
  · rw [if_neg hl]
    cases hx : bestOf P P.all with
    | none => exact hb
    | some x =>
      have hB := hb.save (8 * x.1.toNat) (bytesOf_inB (con x.2.pg) (hf x (bestOf_mem P _ _ hx).1).bytes)
      simp only
      generalize d.save (8 * x.1.toNat) (bytesOf (con x.2.pg)) = sv at *
      by_cases hd : x.2.dirty = true
      · rw [if_pos hd]
        by_cases hs : sv.2 = 0
        · rw [if_pos hs]; exact hB
        · rw [if_neg hs]; exact hB
      · rw [if_neg hd]; exact hb
theorem pageIn_fine {d : Dsk} {k : Nat} (hk : k < 1024) (hby : ∀ u ∈ Wal.flat d.now (8 * k) 8, ∃ n : Int, u = .int .u8 n ∧ 0 ≤ n ∧ n < 256) {p : PgM} (h : pageIn d k = some p) : p.Fine ∧ p.id = (k : Int) := by
  unfold pageIn readOf at h
  split at h
  · obtain rfl := Option.some.inj h
    exact ⟨⟨⟨by first | (simp; done) | (simp; omega) | (simp [usedOf]; done) | decide, by first | (simp; done) | (simp; omega) | (simp [usedOf]; done) | decide, by first | (simp; done) | (simp; omega) | (simp [usedOf]; done) | decide, by first | (simp; done) | (simp; omega) | (simp [usedOf]; done) | decide, by first | (simp; done) | (simp; omega) | (simp [usedOf]; done) | decide, by first | (simp; done) | (simp; omega) | (simp [usedOf]; done) | decide⟩, by simp⟩, rfl⟩
  · obtain ⟨q, hq, he⟩ := Option.bind_eq_some_iff.1 h
    split at he
    · rename_i hid
      obtain rfl := Option.some.inj he
      exact ⟨(parseOf_fine (numsOf_map _ hby).2 hq).1, hid⟩
    · cases he
section
variable {w0 w : World} {bd b mb md m : Nat} {d : Dsk} {P : Pl} {Q : DPl} {con dcon : Nat → PgM} {f : Int → DHd} {φ : Nat → Nat} {K K' Z Z' : Nat → Prop} {n : Nat} {t : List (Nat × Nat)}
def RetDuoPin (w0 w : World) (bd b mb md m pages room sect n : Nat) (t : List (Nat × Nat)) (Z Z' : Nat → Prop) (pv v : Value) (k : Int) (e : Ending) (w2 : World) : Prop :=
  ∃ (qv : Value) (c : Int), e = .returned (.tuple #[qv, .int .i64 c]) ∧ MaybeOuter w2 v opPool k c (From w.heap.size) ∧
    ((pv = .pointer none ∧ qv = .pointer none ∧ DuoTo w0 w bd b mb md m pages room sect n t Z Z' w2) ∨
     ∃ pg dg, pv = .pointer (some ⟨pg, 0, none⟩) ∧ qv = .pointer (some ⟨dg, 0, none⟩) ∧ DuoTo w0 w bd b mb md m pages room sect n (t ++ [(pg, dg)]) Z Z' w2)
theorem DuoAt.pin (D : DuoAt w0 w bd b mb md m d P Q con dcon f φ K K' Z Z' n) (hn : n ≤ 1000) (ht : ∀ x ∈ t, K x.1 ∧ φ x.1 = x.2) (k : Int) :
    Calls Tryz.prog 12 #[.pointer (some ⟨b, 0, none⟩), .int .i64 k] w fun e w1 => ∃ pv v, e = .returned (.tuple #[pv, v]) ∧ Kept Z w w1 ∧ ∀ w1', Kept Nob w1 w1' →
      Calls Tryz.prog 49 #[.pointer (some ⟨m, 0, none⟩), .int .i64 k] w1' (RetDuoPin w0 w bd b mb md m P.pages P.room d.good.length (n + 1) t Z Z' pv v k) := by
  obtain ⟨hfi, hhe, hky, hle, hrm, hpg, hft, hkd⟩ := D.live.fine
  have hops := D.ops
  have hnum := D.nums
  have hck := D.clock
  have hwq := D.twin.wrote
  have hhq := D.twin.hits
  have hrq := D.twin.reads
  have hpq := D.twin.pages
  by_cases hr : k < 0 ∨ (P.pages : Int) ≤ k
  · have hp := D.live
    obtain ⟨F, S, R, L, -⟩ := hp
    refine (pool_pin_range w b bd mb P S L.pool k hr).mono ?_
    rintro e w1 ⟨g, rfl, hf, hk1⟩
    refine ⟨_, _, rfl, hk1.nob, fun w1' hk => ?_⟩
    obtain ⟨DR, S', R', L', -⟩ := D.dlive.nob (hk1.then hk)
    refine (doc_pin_range w1' m md Q S' L'.pool k (by rw [hpq]; exact hr)).mono ?_
    rintro e w2 ⟨rfl, rfl⟩
    exact ⟨_, 2, rfl, (hf.kept hk fun _ _ f => f).maybe (by decide) (by decide), .inl ⟨rfl, rfl, D.stay ht (hk1.then hk)⟩⟩
  · obtain ⟨k, rfl⟩ : ∃ j : Nat, k = j := ⟨k.toNat, by omega⟩
    have hkp : k < P.pages := by omega
    have hfar : ∀ (v : Value) (c : Int) (w1 w1' w2 : World), MaybeOuter w1 v opPool k c (From w.heap.size) → Kept Nob w1 w1' → Kept Z' w1' w2 → MaybeOuter w2 v opPool k c (From w.heap.size) := fun v c w1 w1' w2 hm hk hk2 =>
      (hm.kept hk fun _ _ f => f).kept hk2 fun x hx hz => by
        have h1 := D.under' x hz
        have h2 : w.heap.size ≤ x := hx
        omega
    cases hf : find P.map k with
    | some g =>
      obtain ⟨x, hx, -⟩ : ∃ x, ((k : Int), x) ∈ P.all ∧ x.g = g := by
        unfold Proofs.YthppgchmamonnaaGreatDoor.find at hf
        obtain ⟨y, hy, rfl⟩ := Option.map_eq_some_iff.1 hf
        obtain ⟨⟨a, x⟩, hp, rfl⟩ := List.mem_map.1 (List.mem_of_find?_eq_some hy)
        have := List.find?_some hy
        simp only [beq_iff_eq] at this
        exact ⟨x, this ▸ hp, rfl⟩
      have hfq := D.twin.find hx
      obtain ⟨hpn, -, -, hph⟩ := D.twin.same _ hx
      simp only at hpn hph
      have hpb : x.pins ≤ n := D.pins _ hx
      have hKx : K x.pg := (hhe _ hx).1
      refine (D.live.hit k x hx (by omega) (by omega) (by omega)).mono ?_
      rintro e w1 ⟨rfl, q1⟩
      refine ⟨_, _, rfl, q1.keeps, fun w1' hk => ((D.doc q1.keeps hk).hit k (f k) hfq (by omega) (by omega) (by omega)).mono ?_⟩
      rintro e w2 ⟨rfl, q2⟩
      refine ⟨_, 0, rfl, .inl ⟨rfl, rfl⟩, .inr ⟨x.pg, (f k).pg, rfl, rfl, D.join q1 hk q2 (D.twin.hit hx) D.img D.inj D.byt (by omega) ⟨by show P.clock + 1 ≤ _; omega, by show Q.clock + 1 ≤ _; omega⟩ ⟨by show P.hits + 1 ≤ _; omega, by show P.reads ≤ _; omega, by show P.wrote ≤ _; omega⟩ (fun p hp => ?_) (fun y hy => ?_) rfl rfl rfl⟩⟩
      · obtain ⟨q, hq, rfl⟩ := List.mem_map.1 hp
        by_cases e : q.1 = (k : Int)
        · rw [if_pos e]; show x.pins + 1 ≤ _; omega
        · rw [if_neg e]; exact Nat.le_succ_of_le (D.pins q hq)
      · rcases List.mem_append.1 hy with hy | hy
        · exact ht y hy
        · rw [List.mem_singleton] at hy
          subst hy
          exact ⟨hKx, hph.symm⟩
    | none =>
      have hnoq := D.twin.find_no hf
      obtain ⟨e1, e2, e3, e4, e5, e6, e7, e8, e9, e10, e11, e12⟩ := P.evictA_facts con d
      obtain ⟨u1, u2, u3, u4, u5, u6, u7, u8, u9, u10, u11⟩ := DPl.evictA_facts dcon { Q with clock := Q.clock + 1 } d
      have hB := P.evictA_byt con d D.byt fun p hp => hfi _ (hhe p hp).1
      obtain ⟨t1, t2, t3⟩ := D.twin.tick.evict (fun p hp => (hky p hp).1) d
      have hM := fun d1 P1 c1 hE hby => D.live.miss k hf hkp (by omega) (by omega) (by omega) (by omega) d1 P1 c1 hE hby hle
      have hN := fun (w1 w1' : World) (h1 : Kept Z w w1) (hk : Kept Nob w1 w1') d1 Q1 c1 hE hby hroom => (D.doc h1 hk).miss k hnoq (by rw [hpq]; exact hkp) (by omega) (by omega) (by omega) (by omega) d1 Q1 c1 hE hby hroom
      generalize hE : P.evictA con d = E at *
      generalize hE2 : DPl.evictA dcon { Q with clock := Q.clock + 1 } d = E2 at *
      obtain ⟨d1, P1, c1⟩ := E
      obtain ⟨d1', Q1, c1'⟩ := E2
      simp only at e1 e2 e3 e4 e5 e6 e7 e8 e9 e10 e11 e12 u1 u2 u3 u4 u5 u6 u7 u8 u9 u10 u11 hB t1 t2 t3
      subst t1 t2
      have hby := hB.flat (8 * k) 8
      have hM := hM _ _ _ rfl hby
      have hN := fun w1 w1' h1 hk => hN w1 w1' h1 hk _ _ _ rfl hby fun hc => by
        rw [t3.len]
        have := D.twin.room
        rcases e12 hc with h | h <;> omega
      have hpin1 : ∀ p ∈ P1.all, p.2.pins ≤ n + 1 := fun p hp => Nat.le_succ_of_le (D.pins p (e9 p hp))
      by_cases hc1 : c1' = 0
      · cases hpi : pageIn d1' k with
        | none =>
          refine (hM.2.1 hc1 hpi).mono ?_
          rintro e w1 ⟨v, rfl, hou, q1⟩
          refine ⟨_, _, rfl, q1.keeps, fun w1' hk => (hN w1 w1' q1.keeps hk).mono ?_⟩
          rintro e w2 ⟨-, hd, -⟩
          obtain ⟨rfl, q2⟩ := hd hc1 hpi
          have T : Twin { P1 with reads := P1.reads + 1 } con { Q1 with reads := Q1.reads + 1 } dcon f φ K := t3.turn rfl rfl t3.pages t3.room t3.mark t3.hits (by show Q1.reads + 1 = P1.reads + 1; rw [t3.reads]) t3.wrote (Nat.le_refl _) (Nat.le_refl _)
          exact ⟨_, 10, rfl, hfar _ _ _ _ _ (.inr ⟨by decide, by decide, hou⟩) hk q2.keeps, .inl ⟨rfl, rfl, D.join q1 hk q2 T D.img D.inj hB (by omega) ⟨by show P1.clock ≤ _; omega, by show Q1.clock ≤ _; omega⟩ ⟨by show P1.hits ≤ _; omega, by show P1.reads + 1 ≤ _; omega, by show P1.wrote ≤ _; omega⟩ hpin1 ht e2 e3 e1⟩⟩
        | some p =>
          obtain ⟨hpf, hpid⟩ := pageIn_fine (by omega) hby hpi
          refine (hM.2.2 hc1 p hpi).mono ?_
          rintro e w1 ⟨g, pg, rfl, hnK, hge, q1⟩
          rw [← e5] at q1
          refine ⟨_, _, rfl, q1.keeps, fun w1' hk => (hN w1 w1' q1.keeps hk).mono ?_⟩
          rintro e w2 ⟨-, -, hd⟩
          obtain ⟨g2, pg2, rfl, hnK2, hge2, q2⟩ := hd hc1 p hpi hpf hpid
          have hφ : ∀ x, K x → φ x ≠ pg2 := fun x hx e => hnK2 (e ▸ D.img x hx)
          have hno1 : ∀ q ∈ P1.all, q.1 ≠ (k : Int) := fun q hq e => find_none.1 hf (q.1, q.2.g) (List.mem_map.2 ⟨q, e9 q hq, rfl⟩) e
          have T := t3.add (k := k) (g := g) (pg := pg) (g2 := g2) (pg2 := pg2) (c := p) hno1 hnK hφ (Q.clock + 1) (fun q hq => by have := D.twin.lc q (e9 q hq); omega) (by omega)
          refine ⟨_, 0, rfl, .inl ⟨rfl, rfl⟩, .inr ⟨pg, pg2, rfl, rfl, D.join q1 hk q2 T (fun x hx => ?_) (fun x y hx hy hxy => ?_) hB (by omega) ⟨by show P1.clock + 1 ≤ _; omega, by show Q1.clock ≤ _; omega⟩ ⟨by show P1.hits ≤ _; omega, by show P1.reads + 1 ≤ _; omega, by show P1.wrote ≤ _; omega⟩ (fun q hq => ?_) (fun y hy => ?_) e2 e3 e1⟩⟩
          · by_cases h : x = pg
            · rw [if_pos h]; exact .inr rfl
            · rw [if_neg h]; exact .inl (D.img x (hx.resolve_right h))
          · by_cases h : x = pg <;> by_cases h' : y = pg
            · rw [h, h']
            · rw [if_pos h, if_neg h'] at hxy
              exact absurd hxy.symm (hφ y (hy.resolve_right h'))
            · rw [if_neg h, if_pos h'] at hxy
              exact absurd hxy (hφ x (hx.resolve_right h))
            · rw [if_neg h, if_neg h'] at hxy
              exact D.inj x y (hx.resolve_right h) (hy.resolve_right h') hxy
          · rcases insH_mem.1 hq with rfl | hq
            · show 1 ≤ _; omega
            · exact hpin1 q hq
          · rcases List.mem_append.1 hy with hy | hy
            · have := ht y hy
              refine ⟨.inl this.1, ?_⟩
              rw [if_neg (fun (e : y.1 = pg) => hnK (e ▸ this.1))]
              exact this.2
            · rw [List.mem_singleton] at hy
              subst hy
              exact ⟨.inr rfl, if_pos rfl⟩
      · refine (hM.1 hc1).mono ?_
        rintro e w1 ⟨v, rfl, hou, q1⟩
        refine ⟨_, _, rfl, q1.keeps, fun w1' hk => (hN w1 w1' q1.keeps hk).mono ?_⟩
        rintro e w2 ⟨hd, -, -⟩
        obtain ⟨rfl, q2⟩ := hd hc1
        have hc15 : c1' ≤ 15 := by
          have : c1' = 0 ∨ c1' = 8 ∨ c1' = 9 := by
            have h : (P.evictA con d).2.2 = c1' := by rw [hE]
            rw [← h]
            unfold Pl.evictA
            split
            · exact .inl rfl
            · split
              · exact .inr (.inl rfl)
              · split
                · split
                  · exact .inl rfl
                  · exact .inr (.inr rfl)
                · exact .inl rfl
          omega
        exact ⟨_, c1', rfl, hfar _ _ _ _ _ (.inr ⟨by omega, by omega, hou⟩) hk q2.keeps, .inl ⟨rfl, rfl, D.join q1 hk q2 t3 D.img D.inj hB (by omega) ⟨by omega, by omega⟩ ⟨by omega, by omega, by omega⟩ hpin1 ht e2 e3 e1⟩⟩
end
section
variable {w0 w : World} {bd b mb md m pages room sect : Nat} {d : Dsk} {P : Pl} {Q : DPl} {con dcon : Nat → PgM} {f : Int → DHd} {φ : Nat → Nat} {K K' Z Z' : Nat → Prop} {n : Nat} {t : List (Nat × Nat)}
theorem PgM.Fine.sized {p : PgM} (h : p.Fine) : Sized p.ss := ⟨h.good.len, fun s hs => Nat.le_trans (h.good.size s hs) (by omega)⟩
theorem Duo.page (D : Duo w0 w bd b mb md m pages room sect n t Z Z') {pg dg : Nat} (ht : (pg, dg) ∈ t) : ∃ p R R', PageAt w pg p R ∧ DPgAt w dg p R' ∧ p.Fine ∧ (∀ x, (x = pg ∨ R x) → Z x) ∧ ∀ x, (x = dg ∨ R' x) → Z' x := by
  obtain ⟨d, P, Q, con, dcon, f, φ, K, K', D, -, -, -, hT⟩ := D
  obtain ⟨hK, hφ⟩ := hT _ ht
  simp only at hK hφ
  have hcn := D.twin.con pg hK
  have hK' := D.img pg hK
  rw [hφ] at hcn hK'
  obtain ⟨F, S, R, L, hZ⟩ := D.live
  obtain ⟨DR, S', R', L', hZ'⟩ := D.dlive
  refine ⟨con pg, R, R' dg, (L.page pg hK).1, ?_, (L.page pg hK).2, fun x hx => ?_, fun x hx => hZ' x (.inr (.inr (.inr (.inr ⟨dg, hK', hx⟩))))⟩
  · rw [hcn]; exact (L'.page dg hK').1
  · rcases hx with rfl | hx
    · exact hZ x (.inr (.inr (.inr (.inr (.inl hK)))))
    · exact hZ x (.inr (.inr (.inr (.inr (.inr hx)))))
def RetDuoIns (w0 w : World) (bd b mb md m pages room sect n : Nat) (t : List (Nat × Nat)) (Z Z' : Nat → Prop) (kv ev : Value) (e : Ending) (w2 : World) : Prop :=
  ∃ j c : Int, e = .returned (.tuple #[.int .i64 j, .int .i64 c]) ∧ ((ev = .nilIface ∧ c = 0 ∧ kv = .int .i64 j) ∨ ∃ g, ev = .iface 81 (.pointer (some ⟨g, 0, none⟩)) ∧ c = 8) ∧ DuoTo w0 w bd b mb md m pages room sect n t Z Z' w2
theorem DuoAt.insert (D : DuoAt w0 w bd b mb md m d P Q con dcon f φ K K' Z Z' n) (ht : ∀ x ∈ t, K x.1 ∧ φ x.1 = x.2) (pg dg : Nat) (hpd : (pg, dg) ∈ t) (v : Value) (bs : List Int) (G : Nat → Prop) (hb : Reads w v (bs.map (Value.int .u8)) G) (hG : ∀ x, G x → ¬ Z x ∧ ¬ Z' x) (h1 : bs.length ≤ 400) (h4 : InB bs) :
    Calls Tryz.prog 24 #[.pointer (some ⟨pg, 0, none⟩), v] w fun e w1 => ∃ kv ev, e = .returned (.tuple #[.int .i64 kv, ev]) ∧ Kept Z w w1 ∧ ∀ w1', Kept Nob w1 w1' →
      Calls Tryz.prog 57 #[.pointer (some ⟨dg, 0, none⟩), v] w1' (RetDuoIns w0 w bd b mb md m P.pages P.room d.good.length (n + 1) t Z Z' (.int .i64 kv) ev) := by
  obtain ⟨hK, hφ⟩ := ht _ hpd
  simp only at hK hφ
  have hcn := D.twin.con pg hK
  have hK' := D.img pg hK
  subst hφ
  have hops := D.ops
  have hfi := D.live.fine.1 pg hK
  have hz := hfi.sized
  have hb1 : ∀ w1 w1' : World, Kept Z w w1 → Kept Nob w1 w1' → Reads w1' v (bs.map (Value.int .u8)) G := fun w1 w1' k1 k2 => (hb.kept k1 fun x hx hz => (hG x hx).1 hz).kept k2 fun _ _ f => f
  by_cases hok : freeIdx (con pg).ss < 60 ∧ usedOf (withOf (con pg).ss (freeIdx (con pg).ss) bs) ≤ 512
  · obtain ⟨h2, h3⟩ := hok
    refine (D.live.insert pg hK v bs G hb h1 h2 h3 h4).mono ?_
    rintro e w1 ⟨rfl, q1⟩
    refine ⟨_, _, rfl, q1.keeps, fun w1' hk => ((D.doc q1.keeps hk).insert (φ pg) hK' v bs G (hb1 w1 w1' q1.keeps hk) (fun x hx => (hG x hx).2) h1 (by rw [← hcn]; exact h2) (by rw [← hcn]; exact h3) h4).mono ?_⟩
    rintro e w2 ⟨rfl, q2⟩
    rw [← hcn] at q2 ⊢
    exact ⟨_, 0, rfl, .inl ⟨rfl, rfl, rfl⟩, D.join q1 hk q2 (D.twin.insert hK (fun x hx e => D.inj x pg hx hK e) _) D.img D.inj D.byt (by omega) ⟨Nat.le_succ_of_le D.clock.1, Nat.le_succ_of_le D.clock.2⟩ ⟨Nat.le_succ_of_le D.nums.1, Nat.le_succ_of_le D.nums.2.1, by have := D.nums.2.2; omega⟩ (fun p hp => Nat.le_succ_of_le (D.pins p hp)) ht rfl rfl rfl⟩
  · have hno : 60 ≤ freeIdx (con pg).ss ∨ 512 < usedOf (withOf (con pg).ss (freeIdx (con pg).ss) bs) := by
      rcases Nat.lt_or_ge (freeIdx (con pg).ss) 60 with h | h
      · right
        rcases Nat.lt_or_ge 512 (usedOf (withOf (con pg).ss (freeIdx (con pg).ss) bs)) with h' | h'
        · exact h'
        · exact absurd ⟨h, h'⟩ hok
      · exact .inl h
    obtain ⟨F, S, R, L, -⟩ := D.live
    refine (page_insert_no w pg (con pg) R (L.page pg hK).1 hz v bs G hb (by omega) 8 ?_).mono ?_
    · rcases Nat.lt_or_ge (freeIdx (con pg).ss) 60 with h | h
      · exact .inr (.inr ⟨h1, h, hno.resolve_left (by omega), rfl⟩)
      · exact .inr (.inl ⟨h1, h, rfl⟩)
    · rintro e w1 ⟨g, rfl, -, hk1⟩
      refine ⟨_, _, rfl, hk1.nob, fun w1' hk => ?_⟩
      obtain ⟨DR, S', R', L', -⟩ := D.dlive.nob (hk1.then hk)
      refine (dpage_insert_no w1' (φ pg) (con pg) (R' (φ pg)) (by rw [hcn]; exact (L'.page (φ pg) hK').1) hz v bs G (hb1 w1 w1' hk1.nob hk) h1 hno).mono ?_
      rintro e w2 ⟨j, rfl, rfl⟩
      exact ⟨j, 8, rfl, .inr ⟨g, rfl, rfl⟩, D.stay ht (hk1.then hk)⟩
theorem DuoAt.held (D : DuoAt w0 w bd b mb md m d P Q con dcon f φ K K' Z Z' n) :
    Calls Tryz.prog 15 #[.pointer (some ⟨b, 0, none⟩)] w fun e w1 => ∃ a c, e = .returned (.slice a P.all.length c) ∧ Reads w1 (.slice a P.all.length c) ((P.all.map fun p => p.1).map (Value.int .i64)) (From w.heap.size) ∧ Kept Nob w w1 := by
  obtain ⟨hfi, hhe, hky, hle, hrm, hpg, hft, hkd⟩ := D.live.fine
  obtain ⟨F, S, R, L, -⟩ := D.live
  refine (pool_held w b bd mb P S L.pool (by omega)).mono ?_
  rintro e w1 ⟨a, c, rfl, ho, hk⟩
  refine ⟨a, c, rfl, ?_, hk⟩
  have := ho.reads
  unfold Pl.keys at this
  rw [List.map_map]
  exact this
theorem DuoAt.dirty (D : DuoAt w0 w bd b mb md m d P Q con dcon f φ K K' Z Z' n) :
    Calls Tryz.prog 16 #[.pointer (some ⟨b, 0, none⟩)] w fun e w1 => ∃ a k c, e = .returned (.slice a k c) ∧ Reads w1 (.slice a k c) (((P.all.filter fun p => p.2.dirty).map fun p => p.1).map (Value.int .i64)) (From w.heap.size) ∧ Kept Nob w w1 := by
  obtain ⟨hfi, hhe, hky, hle, hrm, hpg, hft, hkd⟩ := D.live.fine
  obtain ⟨F, S, R, L, -⟩ := D.live
  refine (pool_dirty w b bd mb P S L.pool hkd (by omega)).mono ?_
  rintro e w1 ⟨a, c, rfl, ho, hk⟩
  refine ⟨a, _, c, rfl, ?_, hk⟩
  have := ho.reads
  unfold dirtyOf at this ⊢
  rw [List.map_map]
  exact this
theorem DuoAt.numbers (D : DuoAt w0 w bd b mb md m d P Q con dcon f φ K K' Z Z' n) (y : Bool) :
    Calls Tryz.prog 61 #[.pointer (some ⟨m, 0, none⟩), .bool y] w fun e w1 => ∃ a k c, e = .returned (.slice a k c) ∧ Reads w1 (.slice a k c) (((P.all.filter fun p => !y || p.2.dirty).map fun p => p.1).map (Value.int .i64)) (From w.heap.size) ∧ Kept Nob w w1 := by
  obtain ⟨hfi, hhe, hky, hle, hrm, hpg, hft, hkd⟩ := D.live.fine
  have hlen := D.twin.len
  have hpq := D.twin.pages
  obtain ⟨DR, S', R', L', -⟩ := D.dlive
  refine (doc_numbers w m md Q S' L'.pool (by omega) (by omega) y).mono ?_
  rintro e w1 ⟨v, rfl, a, c, rfl, ho, hk⟩
  refine ⟨a, _, c, rfl, ?_, hk⟩
  rw [← D.twin.nums hky y]
  exact ho.reads
end
theorem Duo.start {w0 w : World} {bd b mb md m pages room n : Nat} {d : Dsk} {F R : Nat → Prop} (hk : Kept Nob w0 w) (hp : PoolAt w b bd mb (Pl.none pages room) (fun _ => False)) (hd : DiskAt w bd d F) (hq : DPoolAt w m md (DPl.none pages room) Nob) (hm : DocAt w md d R)
    (h2 : pages ≤ d.good.length / 8) (h4 : room ≤ 100) (hF : ∀ x, F x → w0.heap.size ≤ x) (hR : ∀ x, R x → w0.heap.size ≤ x) (nb : w0.heap.size ≤ b) (nmb : w0.heap.size ≤ mb) (nm : w0.heap.size ≤ m) (nmd : w0.heap.size ≤ md)
    (Fb : ¬ F b) (Fmb : ¬ F mb) (Rm : ¬ R m) (mmd : m ≠ md) (hFR : ∀ x, (F x ∨ x = b ∨ x = mb) → ¬ (R x ∨ x = m ∨ x = md)) (hb : d.Byt) (ho : d.ops ≤ 1000 * (n : Int)) :
    Duo w0 w bd b mb md m pages room d.good.length n [] (fun x => F x ∨ x = b ∨ x = mb) (fun x => R x ∨ x = m ∨ x = md) := by
  have L : LiveAt w0 w bd b mb d F (Pl.none pages room) (fun _ => False) (fun _ => False) (fun _ => False) (fun _ => ⟨0, 0, []⟩) :=
    ⟨hp, hd, by show 8 * pages ≤ _; omega, fun p h => (by cases h), fun p h => (by cases h), Nat.zero_le _, h4, fun _ h => h.elim, fun p h => (by cases h), fun x h => h.elim (fun h => h.elim) (fun h => h.elim), Fb, Fmb, fun _ _ f => f, fun x h => (by
      rcases h with h | h | h | h
      · exact hF x h
      · omega
      · omega
      · exact h.elim), hk⟩
  have L' : DLiveAt w0 w md m d R (DPl.none pages room) Nob (fun _ => False) (fun _ _ => False) (fun _ => ⟨0, 0, []⟩) :=
    ⟨hq, fun _ h => h.elim, hm, by show 8 * pages ≤ _; omega, fun p h => (by cases h), fun p h => (by cases h), Nat.zero_le _, h4, fun _ h => h.elim, fun p h => (by cases h), fun x h => h.elim, fun _ _ h => h.elim, mmd, fun _ h => h.elim, Rm, fun h => h.elim, fun x h => (by
      rcases h with h | h | h | h
      · exact h.elim
      · exact hR x h
      · omega
      · omega), hk⟩
  refine ⟨d, Pl.none pages room, DPl.none pages room, fun _ => ⟨0, 0, []⟩, fun _ => ⟨0, 0, []⟩, fun _ => ⟨0, 0, 0, 0, false, 0, 0⟩, fun x => x, fun _ => False, fun _ => False, ⟨⟨F, fun _ => False, fun _ => False, L, fun x h => ?_⟩, ⟨R, Nob, fun _ _ => False, L', fun x h => ?_⟩, ?_, fun _ h => h.elim, fun _ _ h => h.elim, hFR, fun x h => ?_, fun x h => ?_, fun x h => ?_, hb, ho, ⟨Nat.zero_le _, Nat.zero_le _⟩, ⟨Nat.zero_le _, Nat.zero_le _, Nat.zero_le _⟩, fun p h => (by cases h)⟩, rfl, rfl, rfl, fun x h => (by cases h)⟩
  · rcases h with h | h | h | h | h | h
    · exact .inl h
    · exact .inr (.inl h)
    · exact .inr (.inr h)
    · exact h.elim
    · exact h.elim
    · exact h.elim
  · rcases h with h | h | h | h | ⟨y, h, -⟩
    · exact h.elim
    · exact .inl h
    · exact .inr (.inl h)
    · exact .inr (.inr h)
    · exact h.elim
  · exact ⟨rfl, rfl, rfl, rfl, rfl, rfl, List.Perm.refl _, List.Pairwise.nil, fun p h => (by cases h), fun p h => (by cases h), fun p h => (by cases h), fun p h => (by cases h), fun p h => (by cases h), fun p h => (by cases h), fun p h => (by cases h), fun _ h => h.elim⟩
  · rcases h with h | h | h
    · exact hd.under x h
    · have := hp.lt; omega
    · have := hp.map.lt; omega
  · rcases h with h | h | h
    · exact hm.under x h
    · have := hq.lt; omega
    · have := hm.lt; omega
  · rcases h with (h | h | h) | (h | h | h)
    · exact hF x h
    · omega
    · omega
    · exact hR x h
    · omega
    · omega
def wCells (bd : Nat) (pv : Value) (md : Nat) (qv x y z : Value) : Array Value := #[.pointer (some ⟨bd, 0, none⟩), pv, .pointer (some ⟨md, 0, none⟩), qv, x, y, z]
def RetOpen (w0 w : World) (wb bd md sect n : Nat) (Z0 : Nat → Prop) (pages room : Int) (e : Ending) (w' : World) : Prop :=
  e = .returned (.bool true) ∧ Kept (Just wb) w w' ∧
  ((w'.heap[wb]? = some (.cells (wCells bd (.pointer none) md (.pointer none) (.slice none 0 0) (.slice none 0 0) (.slice none 0 0)) 63 (0, 0)) ∧ ¬ ((1 ≤ pages ∧ pages ≤ ((sect / 8 : Nat) : Int)) ∧ 1 ≤ room ∧ room ≤ 100)) ∨
   ∃ (pg rm b mb m : Nat) (Z Z' : Nat → Prop), pages = pg ∧ room = rm ∧ (1 ≤ pg ∧ pg ≤ sect / 8 ∧ 1 ≤ rm ∧ rm ≤ 100) ∧ w'.heap[wb]? = some (.cells (wCells bd (.pointer (some ⟨b, 0, none⟩)) md (.pointer (some ⟨m, 0, none⟩)) (.slice none 0 0) (.slice none 0 0) (.slice none 0 0)) 63 (0, 0)) ∧
     Duo w0 w' bd b mb md m pg rm sect n [] Z Z' ∧ ∀ x, (Z x ∨ Z' x) → x ≠ wb ∧ (Z0 x ∨ w.heap.size ≤ x))
set_option maxRecDepth 100000 in
set_option maxHeartbeats 4000000 in
theorem law_open (w0 w : World) (wb bd md n : Nat) (d : Dsk) (F R : Nat → Prop) (hD : DiskAt w bd d F) (hM : DocAt w md d R) (pages room : Int) (hT : Typed w) (h00 : wb ≠ 0)
    (hk : Kept Nob w0 w) (hF : ∀ x, F x → w0.heap.size ≤ x) (hR : ∀ x, R x → w0.heap.size ≤ x) (hm : w0.heap.size ≤ md) (hwb : w0.heap.size ≤ wb)
    (hFw : ¬ F wb) (hRw : ¬ R wb) (hmw : md ≠ wb) (hFR : Disj F R) (hFm : ¬ F md) (hby : d.Byt) (hops : d.ops ≤ 1000 * (n : Int)) (p0 q0 x0 y0 z0 : Value)
    (hw : w.heap[wb]? = some (.cells (wCells bd p0 md q0 x0 y0 z0) 63 (0, 0))) :
    Calls Tryz.prog 48 #[.pointer (some ⟨wb, 0, none⟩), .int .i64 pages, .int .i64 room] w (RetOpen w0 w wb bd md d.good.length n (fun x => F x ∨ R x ∨ x = md) pages room) := by
  have hwl : wb < w.heap.size := (Array.getElem?_eq_some_iff.1 hw).1
  have c0 : w.cell? ⟨wb, 0, none⟩ = some (.pointer (some ⟨bd, 0, none⟩)) := cell_at hw 0 _ rfl
  have hs0 := hk.size
  have hFu := hD.under
  have hRu := hM.under
  have hmdl := hM.lt
  have HD := Lib.hid hD
  have HM := Lib.hid hM
  have HW := Lib.hid hw
  have HK := Lib.hid hk
  have HF := Lib.hid hF
  have HR := Lib.hid hR
  have HFw := Lib.hid hFw
  have HRw := Lib.hid hRw
  have HFu := Lib.hid hFu
  have HRu := Lib.hid hRu
  have HFR := Lib.hid hFR
  have HFm := Lib.hid hFm
  have HB := Lib.hid hby
  have HO := Lib.hid hops
  have HT := Lib.hid hT
  have hFF : Hid (Disj F (Just wb)) := Lib.hid fun x hx e => HFw.out (by rw [show x = wb from e] at hx; exact hx)
  clear hD hM hw hk hF hR hFw hRw hFu hRu hFR hFm hby hops hT
  by_cases hok : (1 ≤ pages ∧ pages ≤ ((d.good.length / 8 : Nat) : Int)) ∧ 1 ≤ room ∧ room ≤ 100
  · obtain ⟨⟨h1, h2⟩, h3, h4⟩ := hok
    obtain ⟨pg, rfl⟩ : ∃ j : Nat, pages = j := ⟨pages.toNat, by omega⟩
    obtain ⟨rm, rfl⟩ : ∃ j : Nat, room = j := ⟨room.toNat, by omega⟩
    have hb1 : pg ≤ d.good.length / 8 := by omega
    have HN := Lib.hid (pool_new w bd d F HD.out pg rm (by omega) hb1 (by omega) (by omega))
    have HQ := Lib.hid (fun w1 (k : Kept Nob w w1) => doc_newpool w1 md d R (HM.out.kept k (fun f => f) (fun _ _ f => f)) pg rm (by omega) hb1 (by omega) (by omega))
    have HB1 := Lib.hid hb1
    have HOk := Lib.hid (show 1 ≤ pg ∧ pg ≤ d.good.length / 8 ∧ 1 ≤ rm ∧ rm ≤ 100 from ⟨by omega, hb1, by omega, by omega⟩)
    clear h1 h2 h3 hb1
    go_enter Tryz.func48, Tryz.ntmps48
    go_wp2_with fail
    refine HN.out.mono ?_
    rintro e w1 ⟨rfl, hp1, hk1⟩
    have d2 : w1.cell? ⟨wb, 2, none⟩ = some (.pointer (some ⟨md, 0, none⟩)) := (hk1.cell hwl (fun f => f)).trans (cell_at HW.out 2 _ rfl)
    have HP1 := Lib.hid hp1
    have HK1 := Lib.hid hk1
    clear hp1 hk1
    go_wp2_with fail
    refine (HQ.out w1 HK1.out).mono ?_
    rintro e w2 ⟨rfl, hq2, hk2⟩
    have hs1 := HK1.out.size
    have hwl1 : wb < w1.heap.size := Nat.lt_of_lt_of_le hwl hs1
    have hb2 := (hk2.block wb hwl1 (fun f => f)).trans ((HK1.out.block wb hwl (fun f => f)).trans HW.out)
    have f1 := frozen_at hb2 1
    have f3 := frozen_at hb2 3
    have f4 := frozen_at hb2 4
    have f5 := frozen_at hb2 5
    have f6 := frozen_at hb2 6
    have g1 := cell_at hb2 1 _ rfl
    have g3 := cell_at hb2 3 _ rfl
    have g4 := cell_at hb2 4 _ rfl
    have g5 := cell_at hb2 5 _ rfl
    have g6 := cell_at hb2 6 _ rfl
    have HB2 := Lib.hid hb2
    have HQ2 := Lib.hid hq2
    have HK2 := Lib.hid hk2
    clear hb2 hq2 hk2 c0 d2
    go_wp2_with (go_at_call 13; refine (is_none _ _ _).mono ?_; rintro e w' ⟨rfl, rfl⟩)
    go_ret
    generalize hw3 : ((((w2.setCell ⟨wb, 1, none⟩ _).setCell ⟨wb, 3, none⟩ _).setCell ⟨wb, 4, none⟩ _).setCell ⟨wb, 5, none⟩ _).setCell ⟨wb, 6, none⟩ _ = w3
    have k3 : Kept (Just wb) w2 w3 := by
      rw [← hw3]
      exact (kept3 w2 wb 1 3 4 _ _ _).trans' (kept2 _ wb 5 6 _ _)
    have hb3 : w3.heap[wb]? = some (.cells (wCells bd (.pointer (some ⟨w.heap.size + 1, 0, none⟩)) md (.pointer (some ⟨w1.heap.size, 0, none⟩)) (.slice none 0 0) (.slice none 0 0) (.slice none 0 0)) 63 (0, 0)) := by
      rw [← hw3]
      exact heap2 _ wb 5 6 _ _ _ _ (heap3 w2 wb 1 3 4 _ _ _ _ _ HB2.out)
    clear hw3
    have hlt2 := HK2.out.size
    have kk : Kept (Just wb) w w3 := (HK1.out.nob.trans' HK2.out.nob).trans' k3
    have hpl := HP1.out.lt
    have hp3 : PoolAt w3 (w.heap.size + 1) bd w.heap.size (Pl.none pg rm) (fun _ => False) := (HP1.out.nob HK2.out).kept k3 (fun e => by have e : w.heap.size + 1 = wb := e; omega) (fun e => by have e : w.heap.size = wb := e; omega) (fun _ f => f.elim)
    have hq3 : DPoolAt w3 w1.heap.size md (DPl.none pg rm) Nob := HQ2.out.kept k3 (fun e => by have e : w1.heap.size = wb := e; omega) (fun _ f => f.elim)
    have k03 : Kept Nob w0 w3 := HK.out.trans kk fun x hx e => by have e : x = wb := e; omega
    refine ⟨rfl, kk, .inr ⟨pg, rm, _, w.heap.size, _, _, _, rfl, rfl, HOk.out, hb3, Duo.start k03 hp3 (HD.out.kept kk hFF.out) hq3 (HM.out.kept kk hmw (fun x hx e => HRw.out (by rw [show x = wb from e] at hx; exact hx))) HB1.out (by omega) HF.out HR.out (by omega) (by omega) (by omega) hm
      (fun e => by have := HFu.out _ e; omega) (fun e => by have := HFu.out _ e; omega) (fun e => by have := HRu.out _ e; omega) (by omega) (fun x hx hy => ?_) HB.out HO.out, fun x hx => ?_⟩⟩
    · rcases hx with hx | hx | hx
      · rcases hy with hy | hy | hy
        · exact HFR.out x hx hy
        · have := HFu.out x hx; omega
        · exact HFm.out (hy ▸ hx)
      · rcases hy with hy | hy | hy
        · have := HRu.out x hy; omega
        · omega
        · omega
      · rcases hy with hy | hy | hy
        · have := HRu.out x hy; omega
        · omega
        · omega
    · rcases hx with (hx | hx | hx) | (hx | hx | hx)
      · exact ⟨fun e => HFw.out (e ▸ hx), .inl (.inl hx)⟩
      · exact ⟨by omega, .inr (by omega)⟩
      · exact ⟨by omega, .inr (by omega)⟩
      · exact ⟨fun e => HRw.out (e ▸ hx), .inl (.inr (.inl hx))⟩
      · exact ⟨by omega, .inr (by omega)⟩
      · exact ⟨fun e => hmw (by rw [← hx, e]), .inl (.inr (.inr hx))⟩
  · have hbad : pages < 1 ∨ ((d.good.length / 8 : Nat) : Int) < pages ∨ room < 1 ∨ 100 < room := by omega
    have HN := Lib.hid (pool_new_no w bd d F HD.out pages room hbad)
    have HQ := Lib.hid (fun w1 (k : Kept Nob w w1) => doc_newpool_no w1 md d R (HM.out.kept k (fun f => f) (fun _ _ f => f)) pages room hbad)
    have HOk := Lib.hid hok
    clear hbad hok
    go_enter Tryz.func48, Tryz.ntmps48
    go_wp2_with fail
    refine HN.out.mono ?_
    rintro e w1 ⟨g, rfl, hf1, hk1⟩
    have d2 : w1.cell? ⟨wb, 2, none⟩ = some (.pointer (some ⟨md, 0, none⟩)) := (hk1.cell hwl (fun f => f)).trans (cell_at HW.out 2 _ rfl)
    have HF1 := Lib.hid hf1
    have HK1 := Lib.hid hk1
    clear hf1 hk1
    go_wp2_with fail
    refine (HQ.out w1 HK1.out).mono ?_
    rintro e w2 ⟨rfl, rfl⟩
    have hs1 := HK1.out.size
    have hwl1 : wb < w1.heap.size := Nat.lt_of_lt_of_le hwl hs1
    have hb2 := (HK1.out.block wb hwl (fun f => f)).trans HW.out
    have f1 := frozen_at hb2 1
    have f3 := frozen_at hb2 3
    have f4 := frozen_at hb2 4
    have f5 := frozen_at hb2 5
    have f6 := frozen_at hb2 6
    have g1 := cell_at hb2 1 _ rfl
    have g3 := cell_at hb2 3 _ rfl
    have g4 := cell_at hb2 4 _ rfl
    have g5 := cell_at hb2 5 _ rfl
    have g6 := cell_at hb2 6 _ rfl
    have HB2 := Lib.hid hb2
    clear hb2 c0 d2
    go_upto_region 8 with fail
    clear f1 f3 f4 f5 f6 g1 g3 g4 g5 g6
    generalize hw3 : ((((w1.setCell ⟨wb, 1, none⟩ _).setCell ⟨wb, 3, none⟩ _).setCell ⟨wb, 4, none⟩ _).setCell ⟨wb, 5, none⟩ _).setCell ⟨wb, 6, none⟩ _ = w3
    have k3 : Kept (Just wb) w1 w3 := by
      rw [← hw3]
      exact (kept3 w1 wb 1 3 4 _ _ _).trans' (kept2 _ wb 5 6 _ _)
    have hb3 : w3.heap[wb]? = some (.cells (wCells bd (.pointer none) md (.pointer none) (.slice none 0 0) (.slice none 0 0) (.slice none 0 0)) 63 (0, 0)) := by
      rw [← hw3]
      exact heap2 _ wb 5 6 _ _ _ _ (heap3 w1 wb 1 3 4 _ _ _ _ _ HB2.out)
    clear hw3
    have HB3 := Lib.hid hb3
    have HK3 := Lib.hid k3
    have HI := Lib.hid (is_maybe w3 _ _ _ _ _ ((HF1.out.kept k3 (fun x hx e => by have e : x = wb := e; have hx : w.heap.size ≤ x := hx; omega)).maybe (by decide) (by decide)) (((HT.out.kept HK1.out (fun f => f)).kept k3 (fun e => h00 e.symm))))
    unfold opPool at HI
    clear hb3 k3
    go_wp2_with (go_at_call 13; (with_reducible refine HI.out.mono ?_); rintro e w' ⟨rfl, hk'⟩; have HK' := Lib.hid hk'; clear hk')
    go_ret
    refine ⟨rfl, (HK1.out.nob.trans' HK3.out).trans' HK'.out.nob, .inl ⟨?_, HOk.out⟩⟩
    exact (HK'.out.block wb (by have := HK3.out.size; omega) (fun f => f)).trans HB3.out
end Go.Proofs.YthppgchmamonnaaGreatDoor
