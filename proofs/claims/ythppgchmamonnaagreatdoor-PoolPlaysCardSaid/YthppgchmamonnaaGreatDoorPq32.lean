/- The document's own pool: Pin of a page that is not held. -/
import Derived.Test.YthppgchmamonnaaGreatDoorPq15
import Derived.Test.YthppgchmamonnaaGreatDoorPq30
import Derived.Test.YthppgchmamonnaaGreatDoorPq31
import Derived.Deep.DeepCutAuto
namespace Go.Proofs.YthppgchmamonnaaGreatDoor
open Go.RowKit
def DHd.may (mark : Int) (x : DHd) : Bool := decide (x.pins = 0) && (!x.dirty || decide (x.lsn ≤ mark))
def older (mark : Int) (acc : Option DHd) (x : DHd) : Option DHd :=
  if x.may mark && (match acc with | none => true | some y => decide (x.last < y.last)) then some x else acc
def oldOf (mark : Int) (l : List DHd) : Option DHd := l.foldl (older mark) none
theorem oldOf_take (mark : Int) (l : List DHd) (j : Nat) (h : j < l.length) : oldOf mark (l.take (j + 1)) = older mark (oldOf mark (l.take j)) l[j] := by
  unfold oldOf
  rw [List.take_succ_eq_append_getElem h, List.foldl_append]; rfl
theorem older_no {mark : Int} {acc : Option DHd} {x : DHd} (h : x.may mark = false) : older mark acc x = acc := by unfold older; rw [h]; rfl
theorem older_none {mark : Int} {x : DHd} (h : x.may mark = true) : older mark none x = some x := by unfold older; rw [h]; rfl
theorem older_some {mark : Int} {x y : DHd} (h : x.may mark = true) : older mark (some y) x = if x.last < y.last then some x else some y := by
  unfold older; rw [h]; simp
theorem oldOf_mem (mark : Int) : ∀ (l : List DHd) (x : DHd), oldOf mark l = some x → x ∈ l ∧ x.may mark = true := by
  have : ∀ (l : List DHd) (acc : Option DHd) (P : DHd → Prop), (∀ x, acc = some x → P x) → (∀ x ∈ l, x.may mark = true → P x) → ∀ x, l.foldl (older mark) acc = some x → P x := by
    intro l
    induction l with
    | nil => intro acc P h1 _ x h; exact h1 x h
    | cons a r ih =>
      intro acc P h1 h2 x h
      refine ih _ P (fun y hy => ?_) (fun y hy => h2 y (by simp [hy])) x h
      by_cases hm : a.may mark = true
      · cases acc with
        | none =>
          rw [older_none hm] at hy
          obtain rfl := Option.some.inj hy
          exact h2 a (by simp) hm
        | some z =>
          rw [older_some hm] at hy
          split at hy
          · obtain rfl := Option.some.inj hy
            exact h2 a (by simp) hm
          · exact h1 y hy
      · rw [older_no (by simpa using hm)] at hy
        exact h1 y hy
  exact fun l x h => this l none (fun x => x ∈ l ∧ x.may mark = true) (fun x h => by cases h) (fun x hx hm => ⟨hx, hm⟩) x h
def DPl.evictA (con : Nat → PgM) (Q : DPl) (d : Dsk) : Dsk × DPl × Nat :=
  if Q.all.length < Q.room then (d, Q, 0) else
  match oldOf Q.mark Q.all with
  | .none => (d, Q, 8)
  | .some x => if x.dirty then (if (d.save (8 * x.n) (bytesOf (con x.pg))).2 = 0 then ((d.save (8 * x.n) (bytesOf (con x.pg))).1, DPl.del { Q with wrote := Q.wrote + 1 } x.n, 0) else ((d.save (8 * x.n) (bytesOf (con x.pg))).1, Q, 9)) else (d, Q.del x.n, 0)
theorem DPoolAt.low {w : World} {m md : Nat} {Q : DPl} {S : Nat → Prop} (h : DPoolAt w m md Q S) : DPoolAt w m md Q (fun k => S k ∧ k < w.heap.size) := by
  obtain ⟨⟨hv, T, hb, hr, hT⟩, h2, h3, h4⟩ := h
  exact ⟨⟨hv, fun k => T k ∧ k < w.heap.size, hb, hr.mono fun k hk t => ⟨t, hk⟩, fun k t => ⟨⟨(hT k t.1).1, t.2⟩, (hT k t.1).2⟩⟩, fun x hx => ⟨(h2 x hx).1, (h2 x hx).2, (Array.getElem?_eq_some_iff.1 (h2 x hx).1).1⟩, h3, fun e => h4 e.1⟩
def DSt (w : World) (m md : Nat) (S DR : Nat → Prop) (Q : DPl) (d : Dsk) (w' : World) : Prop :=
  ∃ S' R', DPoolAt w' m md Q S' ∧ Under S' w'.heap.size ∧ Grows S w.heap.size S' ∧ DocAt w' md d R' ∧ Grows DR w.heap.size R' ∧ Disj S' R' ∧ ¬ R' m ∧ ¬ S' md ∧ Kept (fun x => x = m ∨ x = md) w w'
theorem DSt.start {w : World} {m md : Nat} {S DR : Nat → Prop} {Q : DPl} {d : Dsk} (h : DPoolAt w m md Q S) (hu : Under S w.heap.size) (hD : DocAt w md d DR) (hd : Disj S DR) (h1 : ¬ DR m) (h2 : ¬ S md) : DSt w m md S DR Q d w :=
  ⟨S, DR, h, hu, Grows.refl _ _, hD, Grows.refl _ _, hd, h1, h2, Kept.refl _ _⟩
theorem DSt.turn {w w1 w2 : World} {m md : Nat} {S DR : Nat → Prop} {Q Q' : DPl} {d : Dsk} (h : DSt w m md S DR Q d w1) (hm : m ≠ md) (hk : Kept (Just m) w1 w2) (ha : Q'.all = Q.all)
    (hb : ∀ hv, w1.heap[m]? = some (.cells #[.pointer (some ⟨md, 0, none⟩), .int .i64 Q.pages, .int .i64 Q.room, hv, .int .i64 Q.mark, .int .i64 Q.clock, .int .i64 Q.hits, .int .i64 Q.reads, .int .i64 Q.wrote] 117 (0, 0)) →
      w2.heap[m]? = some (.cells #[.pointer (some ⟨md, 0, none⟩), .int .i64 Q'.pages, .int .i64 Q'.room, hv, .int .i64 Q'.mark, .int .i64 Q'.clock, .int .i64 Q'.hits, .int .i64 Q'.reads, .int .i64 Q'.wrote] 117 (0, 0))) : DSt w m md S DR Q' d w2 := by
  obtain ⟨S', R', h1, h2, h3, h4, h5, h6, h7, h8, h9⟩ := h
  exact ⟨S', R', h1.turn hk ha hb, h2.mono hk.size, h3, h4.kept hk (fun e => hm (show md = m from e).symm) (fun k hk e => h7 (by rw [← show k = m from e]; exact hk)), h5, h6, h7, h8, h9.trans hk fun x _ e => .inl e⟩
theorem DSt.nob {w w1 w2 : World} {m md : Nat} {S DR : Nat → Prop} {Q : DPl} {d : Dsk} (h : DSt w m md S DR Q d w1) (hk : Kept Nob w1 w2) : DSt w m md S DR Q d w2 := by
  obtain ⟨S', R', h1, h2, h3, h4, h5, h6, h7, h8, h9⟩ := h
  exact ⟨S', R', h1.nob hk, h2.mono hk.size, h3, h4.kept hk (fun f => f) (fun _ _ f => f), h5, h6, h7, h8, h9.then hk⟩
theorem DSt.disk {w w1 w2 : World} {m md : Nat} {S DR : Nat → Prop} {Q : DPl} {d' : Dsk} {R1 R2 : Nat → Prop} {S1 : Nat → Prop} (h1 : DPoolAt w1 m md Q S1) (h2 : Under S1 w1.heap.size) (h3 : Grows S w.heap.size S1) (h5 : Grows DR w.heap.size R1) (h6 : Disj S1 R1) (h7 : ¬ R1 m) (h8 : ¬ S1 md) (h9 : Kept (fun x => x = m ∨ x = md) w w1) (hm : m ≠ md)
    (hD : DocAt w2 md d' R2) (hg : Grows R1 w1.heap.size R2) (hk : Kept (Just md) w1 w2) : DSt w m md S DR Q d' w2 := by
  have hml := h1.lt
  exact ⟨S1, R2, h1.kept hk hm (fun k hk e => h8 (by rw [← show k = md from e]; exact hk)), h2.mono hk.size, h3, hD, h5.trans hg h9.size, (h6.symm.grows hg h2).symm, fun f => (hg m f).elim h7 (fun e => by omega), h8, h9.trans hk fun x _ e => .inr e⟩
theorem DSt.drop {w w1 w2 : World} {m md : Nat} {S DR : Nat → Prop} {Q : DPl} {d : Dsk} {R1 : Nat → Prop} {S1 S2 : Nat → Prop} {n : Nat} (_h2 : Under S1 w1.heap.size) (h3 : Grows S w.heap.size S1) (h4 : DocAt w1 md d R1) (h5 : Grows DR w.heap.size R1) (h6 : Disj S1 R1) (h7 : ¬ R1 m) (h8 : ¬ S1 md) (h9 : Kept (fun x => x = m ∨ x = md) w w1) (hm : m ≠ md)
    (hP : DPoolAt w2 m md (Q.del n) S2) (hg : Grows S1 w1.heap.size S2) (hk : Kept (Just m) w1 w2) : DSt w m md S DR (Q.del n) d w2 := by
  have hdl := h4.lt
  refine ⟨_, R1, hP.low, fun k hk => hk.2, fun k e => (h3.trans hg h9.size) k e.1, h4.kept hk (fun e => hm (show md = m from e).symm) (fun k hk e => h7 (by rw [← show k = m from e]; exact hk)), h5, fun k e r => ?_, h7, fun e => ?_, h9.trans hk fun x _ e => .inl e⟩
  · exact h6.grows hg h4.under k e.1 r
  · exact (hg md e.1).elim h8 (fun e => by omega)
def RetDRef (w : World) (m md : Nat) (S DR : Nat → Prop) (Q : DPl) (d : Dsk) (c : Int) (e : Ending) (w' : World) : Prop :=
  e = .returned (.tuple #[.pointer none, .int .i64 c]) ∧ DSt w m md S DR Q d w'
def DPl.add (Q : DPl) (x : DHd) : DPl := { Q with all := Q.all ++ [x] }
def numsOf (l : List Value) : List Int := l.map fun u => match u with | .int _ n => n | _ => 0
def readOf (k : Nat) (ys : List Int) : Option PgM := if ys = List.replicate 512 0 then some ⟨0, k, []⟩ else (parseOf ys).bind fun p => if p.id = k then some p else none
def pageIn (d : Dsk) (k : Nat) : Option PgM := readOf k (numsOf (Wal.flat d.now (8 * k) 8))
def RetDNew (w : World) (m md : Nat) (S DR : Nat → Prop) (clock : Nat) (Q1 : DPl) (d1 : Dsk) (k : Nat) (p : PgM) (e : Ending) (w' : World) : Prop :=
  ∃ pg g R2, e = .returned (.tuple #[.pointer (some ⟨pg, 0, none⟩), .int .i64 0]) ∧ DPgAt w' pg p R2 ∧ w.heap.size ≤ pg ∧ pg < w'.heap.size ∧ (∀ x, R2 x → w.heap.size ≤ x ∧ x < w'.heap.size) ∧ w.heap.size ≤ g ∧
      ∃ S' R', DPoolAt w' m md (({ Q1 with reads := Q1.reads + 1 } : DPl).add ⟨k, g, pg, 1, false, 0, clock + 1⟩) S' ∧ Under S' w'.heap.size ∧ Grows S w.heap.size S' ∧ DocAt w' md d1 R' ∧ Grows DR w.heap.size R' ∧ Disj S' R' ∧ ¬ R' m ∧ ¬ S' md ∧ Kept (fun x => x = m ∨ x = md) w w' ∧ ¬ S' pg ∧ ¬ R' pg ∧ Disj R2 S' ∧ Disj R2 R'
def RetDMiss (w : World) (m md : Nat) (S DR : Nat → Prop) (con : Nat → PgM) (Q : DPl) (d : Dsk) (k : Nat) (e : Ending) (w' : World) : Prop :=
  let E := DPl.evictA con { Q with clock := Q.clock + 1 } d
  (E.2.2 ≠ 0 → RetDRef w m md S DR E.2.1 E.1 E.2.2 e w') ∧
  (E.2.2 = 0 → (pageIn E.1 k = none → RetDRef w m md S DR { E.2.1 with reads := E.2.1.reads + 1 } E.1 10 e w') ∧
    ∀ p, pageIn E.1 k = some p → RetDNew w m md S DR Q.clock E.2.1 E.1 k p e w')
theorem RetDMiss.ref {w : World} {m md : Nat} {S DR : Nat → Prop} {con : Nat → PgM} {Q Q' : DPl} {d d' : Dsk} {k c : Nat} {e : Ending} {w' : World} (hE : DPl.evictA con { Q with clock := Q.clock + 1 } d = (d', Q', c)) (hc : c ≠ 0) (h : RetDRef w m md S DR Q' d' c e w') : RetDMiss w m md S DR con Q d k e w' := by
  unfold RetDMiss
  rw [hE]
  exact ⟨fun _ => h, fun h0 => absurd h0 hc⟩
theorem Dsk.wr_code {d : Dsk} {s : Nat} {ys : List Int} (hd : d.now.length = d.good.length) (hs : s + 8 ≤ d.good.length) (hl : ys.length = 512) : ∀ j, j ≤ 8 → ((d.wr s ys j).2 = 0 ∨ (d.wr s ys j).2 = 9) ∧ (d.wr s ys j).1.now.length = d.now.length := by
  intro j
  induction j with
  | zero => intro _; exact ⟨.inl rfl, rfl⟩
  | succ j ih =>
    intro hj
    obtain ⟨h1, h2⟩ := ih (by omega)
    rcases h1 with h0 | h9
    · rw [Dsk.wr_go h0]
      refine ⟨Dsk.write_in (by rw [h2]; omega) (sector_length hl (by omega)), ?_⟩
      rw [← h2]
      unfold Dsk.write
      split
      · rfl
      · split
        · rfl
        · split
          · show ((Dsk.wr d s ys j).1.now.set _ _).length = _; rw [List.length_set]
          · rfl
    · rw [Dsk.wr_stop (by rw [h9]; decide)]
      exact ⟨.inr h9, h2⟩
theorem numsOf_map : ∀ (l : List Value), (∀ u ∈ l, ∃ n : Int, u = .int .u8 n ∧ 0 ≤ n ∧ n < 256) → l = (numsOf l).map (Value.int .u8) ∧ InB (numsOf l)
  | [], _ => ⟨rfl, fun y hy => by simp [numsOf] at hy⟩
  | u :: r, h => by
    obtain ⟨n, rfl, h1, h2⟩ := h u (by simp)
    obtain ⟨q1, q2⟩ := numsOf_map r fun v hv => h v (by simp [hv])
    refine ⟨by show _ :: r = Value.int .u8 n :: (numsOf r).map _; rw [← q1], fun y hy => ?_⟩
    rcases List.mem_cons.1 hy with rfl | hy
    · exact ⟨h1, h2⟩
    · exact q2 y hy
theorem DPl.evictA_facts (con : Nat → PgM) (Q : DPl) (d : Dsk) : (Q.evictA con d).1.good.length = d.good.length ∧ (Q.evictA con d).2.1.pages = Q.pages ∧ (Q.evictA con d).2.1.room = Q.room ∧ (Q.evictA con d).2.1.mark = Q.mark ∧ (Q.evictA con d).2.1.clock = Q.clock ∧ (Q.evictA con d).2.1.hits = Q.hits ∧ (Q.evictA con d).2.1.reads = Q.reads ∧ (Q.evictA con d).2.1.wrote ≤ Q.wrote + 1 ∧
    (∀ x ∈ (Q.evictA con d).2.1.all, x ∈ Q.all) ∧ (Q.evictA con d).2.1.all.length ≤ Q.all.length ∧ (Q.evictA con d).1.ops ≤ d.ops + 9 := by
  have hdel : ∀ (Q : DPl) (n : Nat), (∀ x ∈ (Q.del n).all, x ∈ Q.all) ∧ (Q.del n).all.length ≤ Q.all.length := fun Q n => ⟨fun x hx => (List.mem_filter.1 hx).1, leftOf_len n Q.all⟩
  unfold DPl.evictA
  split
  · exact ⟨rfl, rfl, rfl, rfl, rfl, rfl, rfl, by simp, fun _ h => h, Nat.le_refl _, by simp only; omega⟩
  · split
    · exact ⟨rfl, rfl, rfl, rfl, rfl, rfl, rfl, by simp, fun _ h => h, Nat.le_refl _, by simp only; omega⟩
    · rename_i x _
      split
      · have h1 := Dsk.save_len d (8 * x.n) (bytesOf (con x.pg))
        have h2 := Dsk.save_ops d (8 * x.n) (bytesOf (con x.pg))
        generalize d.save (8 * x.n) (bytesOf (con x.pg)) = sv at *
        split
        · exact ⟨h1, rfl, rfl, rfl, rfl, rfl, rfl, Nat.le_refl _, (hdel { Q with wrote := Q.wrote + 1 } x.n).1, (hdel { Q with wrote := Q.wrote + 1 } x.n).2, h2⟩
        · exact ⟨h1, rfl, rfl, rfl, rfl, rfl, rfl, by simp, fun _ h => h, Nat.le_refl _, h2⟩
      · exact ⟨rfl, rfl, rfl, rfl, rfl, rfl, rfl, by simp [DPl.del], (hdel Q x.n).1, (hdel Q x.n).2, by simp only; omega⟩
theorem step_make_pg {P : Program} {ops : Array Oper} {o : Oper} {a : Act} {Q : Exit → Act → World → Prop} {w : World} {E : Prop} {K : Act → World → Prop} (hgd : o.guard = none) (l c : Operand) (t : TypeId) (ho : o.op = Op.makeSlice t l c)
    {e : TypeId} {z : Value} {bytes : Nat} (T : Plain P t e z bytes) (hz : z.oneCell' = true) (n : Nat) (kl kc : IntKind) (hl : a.eval l = .int kl n) (hc : a.eval c = .int kc n) (hsz : n * (bytes + 1) ≤ 140737488355328)
    (h : ∀ (w' : World), Own w' e (.slice (some ⟨w.heap.size, 0, none⟩) n n) (List.replicate n z) (fun k => w.heap.size ≤ k) → Kept Nob w w' → K (a.put o.dst (.slice (some ⟨w.heap.size, 0, none⟩) n n)) w') :
    if Region.wanted o (yielded ops a.tmps) = true then Oper.wp P o a w K Q else E := by
  have hw : Region.wanted o (yielded ops a.tmps) = true := by simp [Region.wanted, hgd]
  rw [if_pos hw]
  obtain ⟨i, hi, hz', hs, hb⟩ := T.info
  have hm : n ≤ maxLen := by
    have : n * 1 ≤ n * (bytes + 1) := Nat.mul_le_mul_left _ (by omega)
    unfold maxLen; omega
  have hby : n * bytes ≤ 140737488355328 := Nat.le_trans (Nat.mul_le_mul_left _ (by omega)) hsz
  obtain ⟨w', hrun, r1, r2⟩ := run_make_full (P := P) w 0 t e i z 1 T.sl hi hz' hs kl kc n (by rw [hb, Nat.mul_comm]; omega) hm (Nat.zero_le _)
  unfold Oper.wp
  simp [execOp, ho, hl, hc, hrun, Result.andThen]
  refine h w' ⟨?_, fun g hg => ?_⟩ (Kept.grown_none r2)
  · have hzc : z.cells = #[z] := by cases z <;> simp_all [Value.cells, Value.oneCell']
    have e1 : (madeCells z.cells (n * 1)).toList = List.replicate n z := by rw [hzc, Nat.mul_one]; exact toList_madeCells_one z n
    rw [e1] at r1
    simpa using r1
  · simp [Value.ownBlock] at hg; omega
theorem RetDNew.make {w wA wB w6 : World} {m md : Nat} {S DR S1 R1 R2 : Nat → Prop} {Q1 : DPl} {d1 : Dsk} {k clock pg gx g6 c6 : Nat} {p : PgM} (h1 : DPoolAt wA m md { Q1 with reads := Q1.reads + 1 } S1) (h2 : Under S1 wA.heap.size) (h3 : Grows S w.heap.size S1) (h4 : DocAt wA md d1 R1) (h5 : Grows DR w.heap.size R1) (h6 : Disj S1 R1) (h7 : ¬ R1 m) (h8 : ¬ S1 md) (h9 : Kept (fun x => x = m ∨ x = md) w wA) (hm : m ≠ md)
    (hkB : Kept Nob wA wB) (hk6 : Kept Nob wB w6) (hpg : DPgAt wB pg p R2) (hpg1 : wA.heap.size ≤ pg) (hR2 : ∀ x, R2 x → wA.heap.size ≤ x ∧ x < wB.heap.size)
    (hx : w6.heap[gx]? = some (.cells (⟨k, gx, pg, 1, false, 0, clock + 1⟩ : DHd).cells 153 (0, 0))) (hgx1 : wB.heap.size ≤ gx) (hr : Own w6 150 (.slice (some ⟨g6, 0, none⟩) (Q1.all.length + 1) c6) (ptrsOf Q1.all ++ [.pointer (some ⟨gx, 0, none⟩)]) (From wB.heap.size)) (hno : ∀ x ∈ Q1.all, x.n ≠ k) :
    RetDNew w m md S DR clock Q1 d1 k p (.returned (.tuple #[.pointer (some ⟨pg, 0, none⟩), .int .i64 0])) (w6.setCell ⟨m, 3, none⟩ (.slice (some ⟨g6, 0, none⟩) (Q1.all.length + 1) c6)) := by
  have hml := h1.lt
  have hdl := h4.lt
  have s1 := hkB.size
  have s2 := hk6.size
  have s0 := h9.size
  have k1 := kept1 w6 m 3 (.slice (some ⟨g6, 0, none⟩) (Q1.all.length + 1) c6)
  have hg6 : wB.heap.size ≤ g6 := hr.2 g6 rfl
  have hg6l := hr.blockLt (g := g6) rfl
  have hgx2 : gx < w6.heap.size := (Array.getElem?_eq_some_iff.1 hx).1
  have hgg : gx ≠ g6 := fun e => hr.not_in (b := gx) hx (by decide) (by rw [e]; rfl)
  have hplB : pg < wB.heap.size := hpg.lt
  have hAll : Kept (Just m) wA (w6.setCell ⟨m, 3, none⟩ (.slice (some ⟨g6, 0, none⟩) (Q1.all.length + 1) c6)) := (hkB.then hk6).nob.trans' k1
  have hrow := hr.reads.kept k1 (fun k hk e => by have hk : wB.heap.size ≤ k := hk; have e : k = m := e; omega)
  obtain ⟨hv, T, hb, -, -⟩ := h1.head
  have hb6 := ((hkB.then hk6).block m hml (fun f => f)).trans hb
  refine ⟨pg, gx, R2, rfl, (hpg.kept hk6 (fun f => f) (fun _ _ f => f)).kept k1 (fun e => by have e : pg = m := e; omega) (fun x hx e => by have := hR2 x hx; have e : x = m := e; omega), by omega, by rw [set_size]; omega, fun x hx => ⟨by have := (hR2 x hx).1; omega, by rw [set_size]; have := (hR2 x hx).2; omega⟩, by omega,
    fun x => (S1 x ∨ x = gx ∨ x = g6), R1, ⟨⟨_, fun x => x = g6, (heap_set w6 m 3 _ _ (.slice (some ⟨g6, 0, none⟩) (Q1.all.length + 1) c6) hb6).trans rfl, ?_, ?_⟩, ?_, ?_, ?_⟩, ?_, ?_, ?_, h5, ?_, h7, ?_, ?_, ?_, ?_, ?_, ?_⟩
  · rw [DPl.ptrs_of, DPl.add]
    have e : ptrsOf (Q1.all ++ [⟨k, gx, pg, 1, false, 0, clock + 1⟩]) = ptrsOf Q1.all ++ [.pointer (some ⟨gx, 0, none⟩)] := by simp [ptrsOf]
    rw [e]
    have hr2 : Own w6 150 (.slice (some ⟨g6, 0, none⟩) (Q1.all.length + 1) c6) (ptrsOf Q1.all ++ [.pointer (some ⟨gx, 0, none⟩)]) (fun x => x = g6) := ⟨hr.1, fun g hg => by simp [Value.ownBlock] at hg; exact hg.symm⟩
    exact hr2.reads.kept k1 (fun y hy e => by have hy : y = g6 := hy; have e : y = m := e; omega)
  · intro y hy
    have hy : y = g6 := hy
    subst hy
    refine ⟨.inr (.inr rfl), fun x hx e => ?_⟩
    rcases List.mem_append.1 hx with hx | hx
    · have := h2 _ (h1.held x hx).2; omega
    · rw [List.mem_singleton] at hx; subst hx; exact hgg e
  · intro x hx'
    rcases List.mem_append.1 hx' with hx' | hx'
    · have hq := h1.held x hx'
      have hne : ¬ Just m x.g := fun e => h1.noM (by rw [← show x.g = m from e]; exact hq.2)
      exact ⟨(hAll.block x.g (h2 _ hq.2) hne).trans hq.1, .inl hq.2⟩
    · rw [List.mem_singleton] at hx'
      subst hx'
      exact ⟨(k1.block gx hgx2 (fun e => by have e : gx = m := e; omega)).trans hx, .inr (.inl rfl)⟩
  · rw [DPl.add]
    refine List.pairwise_append.2 ⟨h1.once, List.pairwise_singleton _ _, fun x hx y hy => ?_⟩
    rw [List.mem_singleton] at hy
    subst hy
    exact ⟨fun e => by have := h2 _ (h1.held x hx).2; have e : x.g = gx := e; omega, hno x hx⟩
  · rintro (e | e | e)
    · exact h1.noM e
    · omega
    · omega
  · intro x hx
    rw [set_size]
    rcases hx with e | e | e
    · have := h2 x e; omega
    · omega
    · omega
  · intro x hx
    rcases hx with e | e | e
    · exact h3 x e
    · exact .inr (by omega)
    · exact .inr (by omega)
  · exact h4.kept hAll (fun e => hm (show md = m from e).symm) (fun x hx e => h7 (by rw [← show x = m from e]; exact hx))
  · intro x hx hr
    rcases hx with e | e | e
    · exact h6 x e hr
    · have := h4.under x hr; omega
    · have := h4.under x hr; omega
  · rintro (e | e | e)
    · exact h8 e
    · omega
    · omega
  · exact h9.trans hAll fun x _ e => .inl e
  · rintro (e | e | e)
    · have := h2 pg e; omega
    · omega
    · omega
  · intro e
    have := h4.under pg e; omega
  · intro x hx hs
    have := hR2 x hx
    rcases hs with e | e | e
    · have := h2 x e; omega
    · omega
    · omega
  · intro x hx hs
    have := hR2 x hx
    have := h4.under x hs; omega
end Go.Proofs.YthppgchmamonnaaGreatDoor
