/- The pool: Flush, while the power is on. -/
import Derived.Test.YthppgchmamonnaaGreatDoorPgPool23
namespace Go.Proofs.YthppgchmamonnaaGreatDoor
open Go.RowKit

/-- the pages that may be written -/
def Pl.ripe (P : Pl) : List (Int × Hd) := (P.all.filter fun p => p.2.dirty).filter fun p => decide (p.2.lsn ≤ P.mark)
theorem Pl.ripe_mem {P : Pl} {p : Int × Hd} : p ∈ P.ripe ↔ p ∈ P.all ∧ p.2.dirty = true ∧ p.2.lsn ≤ P.mark := by
  simp only [Pl.ripe, List.mem_filter, decide_eq_true_eq, and_assoc]
theorem Pl.ripe_len (P : Pl) : P.ripe.length ≤ P.all.length := Nat.le_trans (List.length_filter_le _ _) (List.length_filter_le _ _)
/-- so the disk is behind the writes of some pages -/
def Dsk.wrote (con : Nat → PgM) (l : List (Int × Hd)) (d : Dsk) : Dsk := l.foldl (fun d x => d.writes (8 * x.1.toNat) (bytesOf (con x.2.pg)) 8) d
/-- so the pool is behind it -/
def Pl.cleanStep (P : Pl) (x : Int × Hd) : Pl := { P.set x.1 { x.2 with dirty := false } with wrote := P.wrote + 1 }
def Pl.cleaned (l : List (Int × Hd)) (P : Pl) : Pl := l.foldl Pl.cleanStep P
def Pl.flushP (P : Pl) : Pl := Pl.cleaned P.ripe P
def Pl.flushD (P : Pl) (con : Nat → PgM) (d : Dsk) : Dsk := if P.ripe = [] then d else (Dsk.wrote con P.ripe d).sync.1
theorem Dsk.wrote_cons (con : Nat → PgM) (x : Int × Hd) (r : List (Int × Hd)) (d : Dsk) : Dsk.wrote con (x :: r) d = Dsk.wrote con r (d.writes (8 * x.1.toNat) (bytesOf (con x.2.pg)) 8) := by
  unfold Dsk.wrote; rw [List.foldl_cons]
theorem Dsk.wrote_on (con : Nat → PgM) : ∀ (l : List (Int × Hd)) {d : Dsk}, d.cut = false ∧ d.off = false → (Dsk.wrote con l d).cut = false ∧ (Dsk.wrote con l d).off = false := by
  intro l
  induction l with
  | nil => intro d h; exact h
  | cons x r ih =>
    intro d h
    have h1 := Dsk.writes_on h (8 * x.1.toNat) (bytesOf (con x.2.pg)) 8
    rw [Dsk.wrote_cons]
    generalize d.writes (8 * x.1.toNat) (bytesOf (con x.2.pg)) 8 = d1 at *
    exact ih h1
theorem Dsk.wrote_ops (con : Nat → PgM) : ∀ (l : List (Int × Hd)) (d : Dsk), (Dsk.wrote con l d).ops = d.ops + 8 * (l.length : Int) := by
  intro l
  induction l with
  | nil => intro d; simp [Dsk.wrote]
  | cons x r ih =>
    intro d
    have h1 := Dsk.writes_ops d (8 * x.1.toNat) (bytesOf (con x.2.pg)) 8
    rw [Dsk.wrote_cons, List.length_cons]
    generalize d.writes (8 * x.1.toNat) (bytesOf (con x.2.pg)) 8 = d1 at *
    have h2 := ih d1
    omega
theorem Dsk.wrote_len (con : Nat → PgM) : ∀ (l : List (Int × Hd)) (d : Dsk), (Dsk.wrote con l d).now.length = d.now.length := by
  intro l
  induction l with
  | nil => intro d; rfl
  | cons x r ih =>
    intro d
    have h1 := Dsk.writes_len d (8 * x.1.toNat) (bytesOf (con x.2.pg)) 8
    rw [Dsk.wrote_cons]
    generalize d.writes (8 * x.1.toNat) (bytesOf (con x.2.pg)) 8 = d1 at *
    exact (ih d1).trans h1
theorem Dsk.wrote_succ (con : Nat → PgM) (l : List (Int × Hd)) (d : Dsk) (j : Nat) (h : j < l.length) : Dsk.wrote con (l.take (j + 1)) d = (Dsk.wrote con (l.take j) d).writes (8 * l[j].1.toNat) (bytesOf (con l[j].2.pg)) 8 := by
  unfold Dsk.wrote
  rw [List.take_succ_eq_append_getElem h, List.foldl_append, List.foldl_cons, List.foldl_nil]
theorem Pl.cleaned_succ (l : List (Int × Hd)) (P : Pl) (j : Nat) (h : j < l.length) : Pl.cleaned (l.take (j + 1)) P = Pl.cleanStep (Pl.cleaned (l.take j) P) l[j] := by
  unfold Pl.cleaned
  rw [List.take_succ_eq_append_getElem h, List.foldl_append]; rfl
theorem Pl.cleaned_keeps : ∀ (l : List (Int × Hd)) (P : Pl), (Pl.cleaned l P).pages = P.pages ∧ (Pl.cleaned l P).room = P.room ∧ (Pl.cleaned l P).mark = P.mark ∧ (Pl.cleaned l P).clock = P.clock ∧ (Pl.cleaned l P).hits = P.hits ∧ (Pl.cleaned l P).reads = P.reads ∧ (Pl.cleaned l P).wrote = P.wrote + l.length ∧ (Pl.cleaned l P).all.length = P.all.length := by
  intro l
  induction l with
  | nil => intro P; exact ⟨rfl, rfl, rfl, rfl, rfl, rfl, rfl, rfl⟩
  | cons x r ih =>
    intro P
    obtain ⟨h1, h2, h3, h4, h5, h6, h7, h8⟩ := ih (Pl.cleanStep P x)
    have : Pl.cleaned (x :: r) P = Pl.cleaned r (Pl.cleanStep P x) := rfl
    rw [this]
    refine ⟨h1, h2, h3, h4, h5, h6, ?_, ?_⟩
    · rw [h7, List.length_cons]; show P.wrote + 1 + _ = _; omega
    · rw [h8]; exact Pl.set_length P _ _
/-- a page that is not among them stays as it was -/
theorem Pl.mem_set_other {P : Pl} {k : Int} {x : Hd} {p : Int × Hd} (h : p ∈ P.all) (hk : p.1 ≠ k) : p ∈ (P.set k x).all := List.mem_map.2 ⟨p, h, if_neg hk⟩
theorem Pl.cleaned_other : ∀ (l : List (Int × Hd)) (P : Pl) (p : Int × Hd), p ∈ P.all → (∀ x ∈ l, p.1 ≠ x.1) → p ∈ (Pl.cleaned l P).all := by
  intro l
  induction l with
  | nil => intro P p h _; exact h
  | cons x r ih =>
    intro P p h hn
    exact ih _ p (Pl.mem_set_other h (hn x (by simp))) fun y hy => hn y (List.mem_cons_of_mem _ hy)
/-- whatever is there behind it was there ahead of it, but for its dirt -/
theorem Pl.cleaned_mem : ∀ (l : List (Int × Hd)) (P : Pl), (∀ x ∈ l, x ∈ P.all) → (l.Pairwise fun p q => p.1 ≠ q.1) → ∀ p ∈ (Pl.cleaned l P).all, (p ∈ P.all ∧ ∀ x ∈ l, x.1 ≠ p.1) ∨ ∃ x ∈ l, p = (x.1, { x.2 with dirty := false }) := by
  intro l
  induction l with
  | nil => intro P _ _ p hp; exact .inl ⟨hp, fun x hx => by cases hx⟩
  | cons x r ih =>
    intro P hl hd p hp
    rw [List.pairwise_cons] at hd
    rcases ih (Pl.cleanStep P x) (fun y hy => Pl.mem_set_other (hl y (List.mem_cons_of_mem _ hy)) (fun e => hd.1 y hy e.symm)) hd.2 p hp with ⟨h1, h2⟩ | ⟨y, hy, e⟩
    · have h1 : p ∈ (P.set x.1 { x.2 with dirty := false }).all := h1
      simp only [Pl.set, List.mem_map] at h1
      obtain ⟨q, hq, rfl⟩ := h1
      by_cases hqx : q.1 = x.1
      · rw [if_pos hqx]
        exact .inr ⟨x, by simp, rfl⟩
      · rw [if_neg hqx] at h2 ⊢
        refine .inl ⟨hq, fun y hy => ?_⟩
        rcases List.mem_cons.1 hy with rfl | hy
        · exact fun e => hqx e.symm
        · exact h2 y hy
    · exact .inr ⟨y, List.mem_cons_of_mem _ hy, e⟩
/-- the keys of some pages -/
def keysOf (l : List (Int × Hd)) : List Value := l.map fun p => .int .i64 p.1
/-- inside Flush: the row of those that may be -/
def RipeRel (w : World) (l : List (Int × Hd)) (v : Value) (wr : World) : Prop :=
  ∃ b c, v = .slice b l.length c ∧ Own wr 3 v (keysOf l) (From w.heap.size) ∧ Kept Nob w wr
def ripeOf (m : Int) (l : List (Int × Hd)) : List (Int × Hd) := l.filter fun p => decide (p.2.lsn ≤ m)
theorem ripeOf_take (m : Int) (l : List (Int × Hd)) (j : Nat) (h : j < l.length) : ripeOf m (l.take (j + 1)) = ripeOf m (l.take j) ++ if l[j].2.lsn ≤ m then [l[j]] else [] := by
  rw [List.take_succ_eq_append_getElem h, ripeOf, List.filter_append]
  unfold ripeOf
  congr 1
  by_cases hd : l[j].2.lsn ≤ m
  · simp [hd]
  · simp [hd]
/-- inside Flush: some pages are written -/
def WroteRel (w0 w2 : World) (bd b mb : Nat) (d : Dsk) (F : Nat → Prop) (P : Pl) (S K R : Nat → Prop) (con : Nat → PgM) (j : Nat) (wr : World) : Prop :=
  ∃ F', LiveAt w0 wr bd b mb (Dsk.wrote con (P.ripe.take j) d) F' P S K R con ∧ Grows F w2.heap.size F' ∧ Kept F w2 wr
/-- inside Flush: some pages are told to be clean -/
def CleanRel (w0 w3 : World) (bd b mb : Nat) (d : Dsk) (F : Nat → Prop) (P : Pl) (S K R : Nat → Prop) (con : Nat → PgM) (j : Nat) (wr : World) : Prop :=
  LiveAt w0 wr bd b mb d F (Pl.cleaned (P.ripe.take j) P) S K R con ∧ Kept (PoolF b mb S) w3 wr

theorem PoolAt.apart {w : World} {b bd mb : Nat} {P : Pl} {S : Nat → Prop} (h : PoolAt w b bd mb P S) : P.ripe.Pairwise fun p q => p.1 ≠ q.1 := by
  have h1 : P.ripe.Pairwise fun p q => p.2.g ≠ q.2.g := (h.once.filter _).filter _
  refine h1.imp_of_mem fun {p q} hp hq hpq e => ?_
  obtain ⟨k, x⟩ := p
  obtain ⟨k', y⟩ := q
  simp only at e
  subst e
  exact hpq (by rw [h.one (Pl.ripe_mem.1 hp).1 (Pl.ripe_mem.1 hq).1])

theorem LiveAt.write {w0 w : World} {bd b mb : Nat} {d : Dsk} {F S K R : Nat → Prop} {P : Pl} {con : Nat → PgM} (L : LiveAt w0 w bd b mb d F P S K R con) (ho : d.ops ≤ 1000000000000) (hon : d.cut = false ∧ d.off = false) (k : Int) (x : Hd) (hx : (k, x) ∈ P.all) :
    Calls Tryz.prog 42 #[.pointer (some ⟨b, 0, none⟩), .int .i64 k] w fun e w' =>
      e = .returned .nilIface ∧ (∃ F', LiveAt w0 w' bd b mb (d.writes (8 * k.toNat) (bytesOf (con x.pg)) 8) F' P S K R con ∧ Grows F w.heap.size F') ∧ Kept F w w' := by
  have hxk := L.keyed _ hx
  simp only at hxk
  obtain ⟨hKp, hid⟩ := L.held _ hx
  obtain ⟨hpa, hfi⟩ := L.page _ hKp
  have hpgs := L.pages
  have hfit := L.fit
  have hxe : ((k.toNat : Nat) : Int) = k := by omega
  have := pool_write w b bd mb P S L.pool L.kd k.toNat x (by rw [hxe]; exact hx) (by omega) (con x.pg) R hpa ⟨hfi.good.len, fun s hs => Nat.le_trans (hfi.good.size s hs) (by omega)⟩ hfi.good.used d F L.disk L.Fb (by omega) (by omega) (fun j _ => Dsk.goes_on (Dsk.writes_on hon _ _ j))
  rw [hxe] at this
  refine this.mono ?_
  rintro e w' ⟨rfl, F', hd, hg, hk⟩
  refine ⟨rfl, ⟨F', L.next (L.pool.kept hk L.Fb L.Fm L.FS.symm) hd hk hg (Grows.refl _ _) (fun y hf hs => ?_) (fun y _ q => .inl q) ?_ rfl rfl L.keyed L.used L.len L.held, hg⟩, hk⟩
  · rcases hg y hf with f | f
    · exact L.FS y f hs
    · have := L.pool.under y hs; omega
  · rw [← hd.wf.len, ← L.disk.wf.len, Dsk.writes_len]
theorem LiveAt.sync {w0 w : World} {bd b mb : Nat} {d : Dsk} {F S K R : Nat → Prop} {P : Pl} {con : Nat → PgM} (L : LiveAt w0 w bd b mb d F P S K R con) (ho : d.ops ≤ 1000000000000) (hon : d.cut = false ∧ d.off = false) :
    Calls Tryz.prog 43 #[.pointer (some ⟨bd, 0, none⟩)] w fun e w' =>
      e = .returned .nilIface ∧ (∃ F', LiveAt w0 w' bd b mb d.sync.1 F' P S K R con ∧ Grows F w.heap.size F') ∧ Kept F w w' := by
  refine (disk_sync w bd d F L.disk (by omega) (Dsk.goes_on hon)).mono ?_
  rintro e w' ⟨rfl, F', hd, hg, hk⟩
  refine ⟨rfl, ⟨F', L.next (L.pool.kept hk L.Fb L.Fm L.FS.symm) hd hk hg (Grows.refl _ _) (fun y hf hs => ?_) (fun y _ q => .inl q) ?_ rfl rfl L.keyed L.used L.len L.held, hg⟩, hk⟩
  · rcases hg y hf with f | f
    · exact L.FS y f hs
    · have := L.pool.under y hs; omega
  · rw [← hd.wf.len, ← L.disk.wf.len, Dsk.sync_now hon]
theorem LiveAt.cleanStep {w0 w : World} {bd b mb : Nat} {d : Dsk} {F S K R : Nat → Prop} {P : Pl} {con : Nat → PgM} (L : LiveAt w0 w bd b mb d F P S K R con) (p : Int × Hd) (hx : p ∈ P.all) :
    LiveAt w0 ((w.setCell ⟨p.2.g, 2, none⟩ (.bool false)).setCell ⟨b, 8, none⟩ (.int .i64 ((P.wrote : Int) + 1))) bd b mb d F (P.cleanStep p) S K R con ∧ Kept (PoolF b mb S) w ((w.setCell ⟨p.2.g, 2, none⟩ (.bool false)).setCell ⟨b, 8, none⟩ (.int .i64 ((P.wrote : Int) + 1))) := by
  obtain ⟨k, x⟩ := p
  have k1 := kept1 w x.g 2 (.bool false)
  have k2 := kept1 (w.setCell ⟨x.g, 2, none⟩ (.bool false)) b 8 (.int .i64 ((P.wrote : Int) + 1))
  have hS := (L.pool.held _ hx).1
  have h1 := L.pool.inner hx { x with dirty := false } rfl k1 (heap_set w x.g 2 _ _ _ (L.pool.held _ hx).2)
  have h2 := h1.turn (P' := P.cleanStep (k, x)) k2 rfl (heap_set _ b 8 _ _ (.int .i64 ((P.wrote : Int) + 1)) h1.head)
  have kk : Kept (PoolF b mb S) w ((w.setCell ⟨x.g, 2, none⟩ (.bool false)).setCell ⟨b, 8, none⟩ (.int .i64 ((P.wrote : Int) + 1))) := (k1.mono fun y _ q => .inr (.inr (by rw [show y = x.g from q]; exact hS))).trans' (k2.mono fun y _ q => .inl q)
  refine ⟨L.turn h2 kk (fun _ _ h => h) rfl rfl (fun p hp => ?_) (fun p hp => ?_) ?_ (fun p hp => ?_), kk⟩
  · rcases Pl.mem_set hp with rfl | h
    · exact (L.keyed _ hx :)
    · exact L.keyed p h
  · rcases Pl.mem_set hp with rfl | h
    · exact (L.used _ hx :)
    · exact L.used p h
  · show (P.set _ _).all.length ≤ _
    rw [Pl.set_length]; exact L.len
  · rcases Pl.mem_set hp with rfl | h
    · exact (L.held _ hx :)
    · exact L.held p h

set_option maxRecDepth 100000 in
set_option maxHeartbeats 8000000 in
theorem LiveAt.flush {w0 w : World} {bd b mb : Nat} {d : Dsk} {F S K R : Nat → Prop} {P : Pl} {con : Nat → PgM} (L : LiveAt w0 w bd b mb d F P S K R con) (ho : d.ops ≤ 1000000000) (hon : d.cut = false ∧ d.off = false) (hw : P.wrote ≤ 1000000000000) :
    Calls Tryz.prog 21 #[.pointer (some ⟨b, 0, none⟩)] w fun e w' =>
      e = .returned .nilIface ∧ (∃ F', LiveAt w0 w' bd b mb (P.flushD con d) F' P.flushP S K R con ∧ Grows F w.heap.size F') ∧ Kept (fun x => F x ∨ PoolF b mb S x) w w' := by
  have hlen := L.len
  have hroom := L.room
  have HL := Lib.hid L
  have HD := Lib.hid (pool_dirty w b bd mb P S L.pool L.kd (by omega))
  have HOn := Lib.hid hon
  have hrl := P.ripe_len
  clear L hon
  go_enter Tryz.func21, Tryz.ntmps21
  go_wp2_with fail
  refine HD.out.mono ?_
  rintro e w1 ⟨a1, c1, rfl, ho1, hk1⟩
  have HO1 := Lib.hid ho1.reads
  have HK1 := Lib.hid hk1
  have HD1 : Hid (w.heap.size ≤ w1.heap.size) := Lib.hid hk1.size
  have HR0 : Hid (RipeRel w1 (ripeOf P.mark ((P.all.filter fun p => p.2.dirty).take 0)) (.slice none 0 0) w1) := Lib.hid ⟨none, 0, rfl, Own.nil _ _ _, Kept.refl _ _⟩
  have HDl : Hid ((dirtyOf P.all).length = (P.all.filter fun p => p.2.dirty).length) := Lib.hid (by simp [dirtyOf])
  have HDn : Hid (∀ j (h : j < (P.all.filter fun p => p.2.dirty).length), (dirtyOf P.all)[j]? = some (.int .i64 (P.all.filter fun p => p.2.dirty)[j].1)) := Lib.hid fun j h => by
    rw [dirtyOf, List.getElem?_map, List.getElem?_eq_getElem h]; rfl
  have HDm : Hid (∀ p ∈ (P.all.filter fun p => p.2.dirty), p ∈ P.all) := Lib.hid fun p h => (List.mem_filter.1 h).1
  have HRp : Hid (P.ripe = ripeOf P.mark (P.all.filter fun p => p.2.dirty)) := Lib.hid rfl
  have hdl : (P.all.filter fun p => p.2.dirty).length ≤ P.all.length := List.length_filter_le _ _
  rw [HDl.out] at HO1 ⊢
  clear ho1 hk1 HD
  generalize (P.all.filter fun p => p.2.dirty) = D at *
  go_wp2_with fail
  go_loopw [3, 15] (fun o i wr => ∃ j : Nat, j ≤ D.length ∧ i = .int .i64 j ∧ RipeRel w1 (ripeOf P.mark (D.take j)) o wr) (fun _ i _ => D.length - (intOf i).toNat)
  case atStart => exact ⟨0, Nat.zero_le _, rfl, HR0.out⟩
  case round =>
    clear HR0
    obtain ⟨j, hj, rfl, ob, oc, rfl, ho1, hkw⟩ := hrel
    have HO := Lib.hid ho1
    have HKW := Lib.hid hkw
    have hPr := HL.out.pool.nob (HK1.out.then hkw)
    have c5 : wr.cell? ⟨b, 5, none⟩ = some (.map (some mb)) := cell_at hPr.head 5 _ rfl
    have c3 : wr.cell? ⟨b, 3, none⟩ = some (.int .i64 P.mark) := cell_at hPr.head 3 _ rfl
    have HPr := Lib.hid hPr
    have hbl : b < wr.heap.size := hPr.lt
    have HBd : Hid ((ripeOf P.mark (D.take j)).length ≤ D.length) := Lib.hid (Nat.le_trans (List.length_filter_le _ _) (by rw [List.length_take]; omega))
    clear hPr hkw ho1
    by_cases hlt : j < D.length
    · have hmem := HDm.out _ (List.getElem_mem hlt)
      have HT := Lib.hid (ripeOf_take P.mark D j hlt)
      obtain ⟨gb, go, xv, rfl, hx, hc, -⟩ := (HO1.out.kept HKW.out (fun _ _ f => f)).cell (i := j) (by rw [HDl.out]; exact hlt)
      obtain rfl : xv = .int .i64 D[j].1 := by
        rw [HDn.out j hlt] at hx
        exact (Option.some.inj hx).symm
      clear hx
      obtain ⟨key, x, he⟩ : ∃ key x, D[j] = (key, x) := ⟨_, _, rfl⟩
      rw [he] at hmem HT hc
      clear he
      have hlk := fun n => (HPr.out.nob (Kept.drewN Nob wr n)).look HL.out.kd hmem
      have hb := (HPr.out.held _ hmem).2
      have d3 : wr.cell? ⟨x.g, 3, none⟩ = some (.int .i64 x.lsn) := cell_at hb 3 _ rfl
      have hgl : x.g < wr.heap.size := (Array.getElem?_eq_some_iff.1 hb).1
      clear hb hmem
      by_cases hdt : x.lsn ≤ P.mark
      · have hd : decide (x.lsn ≤ P.mark) = true := decide_eq_true hdt
        have HE : Hid (ripeOf P.mark (D.take (j + 1)) = ripeOf P.mark (D.take j) ++ [(key, x)]) := Lib.hid (by rw [HT.out]; simp [hdt])
        clear hdt HT
        generalize ripeOf P.mark (D.take j) = zs at *
        have hkl : (keysOf zs).length = zs.length := by simp [keysOf]
        have HKl := Lib.hid hkl
        clear hkl
        go_wp2_with fail
        go_quiet (fail)
        have HKq : Hid (Kept Nob wr (wr.drewN nq)) := Lib.hid (Kept.drewN _ _ _)
        have HOq := Lib.hid (HO.out.kept HKq.out (fun _ _ f => f))
        clear hlk d3 c5 c3 hc
        generalize wr.drewN nq = wq at *
        go_wp2_with (at_builtin; refine wpList_append1_pg rfl _ _ 36 rfl tInts (.slice ob zs.length oc) (keysOf zs) (.int .i64 key) (From w1.heap.size) ⟨wq.heap.size, 0, none⟩ 1 rfl rfl (HOq.out.alloc _) (by simp) rfl (Nat.le_refl _) rfl (by rw [HKl.out]; have := HBd.out; omega) ?_; intro g2 cap2 w4 ho4 hk4; rw [HKl.out] at ho4 ⊢; have HO4 := Lib.hid ho4; have HK4 := Lib.hid hk4; clear ho4 hk4)
        have HN : Hid (RipeRel w1 (ripeOf P.mark (D.take (j + 1))) (.slice (some ⟨g2, 0, none⟩) (zs.length + 1) cap2) w4) := by
          have hl : (zs ++ [(key, x)]).length = zs.length + 1 := by simp
          refine Lib.hid ⟨some ⟨g2, 0, none⟩, cap2, by rw [HE.out, hl], ?_, ?_⟩
          · rw [HE.out]
            rw [show keysOf (zs ++ [(key, x)]) = keysOf zs ++ [.int .i64 key] from by simp [keysOf]]
            refine HO4.out.mono fun x _ hx => ?_
            rcases hx with hx | hx
            · exact HO.out.2 x hx
            · have := (HKW.out.then HKq.out).size; simp at hx; show _ ≤ _; omega
          · exact ((HKW.out.then HKq.out).then (Kept.alloc Nob wq _)).from (Nat.le_refl _) (HK4.out.mono fun x _ hx => HO.out.2 x hx)
        go_roundw
        case rel => exact ⟨j + 1, by omega, by go_num, HN.out⟩
        case measure => simp [intOf]; omega
      · have hd : decide (x.lsn ≤ P.mark) = false := decide_eq_false hdt
        have HN : Hid (∀ W, Kept Nob wr W → RipeRel w1 (ripeOf P.mark (D.take (j + 1))) (.slice ob (ripeOf P.mark (D.take j)).length oc) W) := by
          have e : ripeOf P.mark (D.take (j + 1)) = ripeOf P.mark (D.take j) := by rw [HT.out]; simp [hdt]
          refine Lib.hid fun W q => ⟨ob, oc, by rw [e], by rw [e]; exact HO.out.kept q (fun _ _ f => f), HKW.out.then q⟩
        clear hdt
        generalize ripeOf P.mark (D.take j) = zs at *
        go_wp2_with fail
        go_quiet (fail)
        have HN2 := Lib.hid (HN.out _ (Kept.drewN Nob wr nq))
        clear hlk d3 c5 c3 hc
        go_wp2_with fail
        go_roundw
        case rel => exact ⟨j + 1, by omega, by go_num, HN2.out⟩
        case measure => simp [intOf]; omega
    · have hjl : j = D.length := by omega
      subst hjl
      rw [List.take_of_length_le (Nat.le_refl _), ← HRp.out] at HO ⊢
      have HKw := Lib.hid (HK1.out.then HKW.out)
      have HLr := Lib.hid (HL.out.nob HKw.out)
      clear HO1 HDl HDn HDm HRp HK1 HKW HPr HBd c3 c5 hj hlt
      by_cases hz : P.ripe = []
      · have HF : Hid (P.flushD con d = d ∧ P.flushP = P) := Lib.hid ⟨by unfold Pl.flushD; rw [if_pos hz], by unfold Pl.flushP; rw [hz]; rfl⟩
        rw [hz]
        clear hz HO
        go_wp2_with fail
        go_ret
        rw [HF.out.1, HF.out.2]
        exact ⟨rfl, ⟨F, HLr.out, Grows.refl _ _⟩, HKw.out.nob⟩
      · have hz1 : 1 ≤ P.ripe.length := List.length_pos_iff.2 hz
        have hz2 : ((P.ripe.length : Int) == 0) = false := by simp; omega
        have HZ := Lib.hid hz
        clear hz
        have HS0 : Hid (WroteRel w0 wr bd b mb d F P S K R con 0 wr) := Lib.hid ⟨F, HLr.out, Grows.refl _ _, Kept.refl _ _⟩
        have HRl : Hid (keysOf P.ripe = keysOf P.ripe ∧ (keysOf P.ripe).length = P.ripe.length) := Lib.hid ⟨rfl, by simp [keysOf]⟩
        have HRn : Hid (∀ j (h : j < P.ripe.length), (keysOf P.ripe)[j]? = some (.int .i64 P.ripe[j].1)) := Lib.hid fun j h => by
          rw [keysOf, List.getElem?_map, List.getElem?_eq_getElem h]; rfl
        have HRm : Hid (∀ p ∈ P.ripe, p ∈ P.all) := Lib.hid fun p h => (Pl.ripe_mem.1 h).1
        have HAp := Lib.hid HLr.out.pool.apart
        have HFu : Hid (∀ x, From w1.heap.size x → ¬ F x ∧ ¬ PoolF b mb S x) := Lib.hid fun x hx => by
          have hx : w1.heap.size ≤ x := hx
          have hs := HD1.out
          refine ⟨fun f => by have := HL.out.disk.under x f; omega, ?_⟩
          rintro (e | e | e)
          · have := HL.out.pool.lt; omega
          · have := HL.out.pool.map.lt; omega
          · have := HL.out.pool.under x e; omega
        have HOr := Lib.hid HO.out.reads
        clear HO
        generalize wr = wA at *
        go_wp2_with fail
        go_loopw [43] (fun i wy => ∃ j : Nat, j ≤ P.ripe.length ∧ i = .int .i64 j ∧ WroteRel w0 wA bd b mb d F P S K R con j wy) (fun i _ => P.ripe.length - (intOf i).toNat)
        case atStart => exact ⟨0, Nat.zero_le _, rfl, HS0.out⟩
        case round =>
          clear HS0
          obtain ⟨j, hj, rfl, F1, hL1, hg1, hk1⟩ := hrel
          have HL1 := Lib.hid hL1
          have HG1 := Lib.hid hg1
          have HK1 := Lib.hid hk1
          clear hL1 hg1 hk1
          by_cases hlt : j < P.ripe.length
          · obtain ⟨gb, go, xv, rfl, hx, hc, -⟩ := (HOr.out.kept HK1.out (fun x hx f => (HFu.out x hx).1 f)).cell (i := j) (by rw [HRl.out.2]; exact hlt)
            obtain rfl : xv = .int .i64 P.ripe[j].1 := by
              rw [HRn.out j hlt] at hx
              exact (Option.some.inj hx).symm
            clear hx
            have hopb : (Dsk.wrote con (P.ripe.take j) d).ops ≤ 1000000000000 := by
              rw [Dsk.wrote_ops, List.length_take]; omega
            have HW := HL1.out.write hopb (Dsk.wrote_on con _ HOn.out) P.ripe[j].1 P.ripe[j].2 (HRm.out _ (List.getElem_mem hlt))
            rw [← Dsk.wrote_succ con P.ripe d j hlt] at HW
            have HWr := Lib.hid HW
            clear HW hopb
            generalize P.ripe[j] = pj at *
            go_wp2_with fail
            refine HWr.out.mono ?_
            rintro e w4 ⟨rfl, ⟨F2, hL2, hg2⟩, hk2⟩
            have HN : Hid (WroteRel w0 wA bd b mb d F P S K R con (j + 1) w4) := Lib.hid ⟨F2, hL2, HG1.out.trans hg2 HK1.out.size, HK1.out.trans hk2 fun x hx f => (HG1.out x f).elim id fun e => absurd e (by omega)⟩
            clear hL2 hg2 hk2 HWr hc
            go_wp2_with fail
            go_roundw
            case rel => exact ⟨j + 1, by omega, by go_num, HN.out⟩
            case measure => simp [intOf]; omega
          · have hje : j = P.ripe.length := by omega
            subst hje
            rw [List.take_of_length_le (Nat.le_refl _)] at HL1
            have hopb : (Dsk.wrote con P.ripe d).ops ≤ 1000000000000 := by rw [Dsk.wrote_ops]; omega
            have HSy := Lib.hid (HL1.out.sync hopb (Dsk.wrote_on con _ HOn.out))
            have c0 : wr.cell? ⟨b, 0, none⟩ = some (.pointer (some ⟨bd, 0, none⟩)) := cell_at HL1.out.pool.head 0 _ rfl
            have HFlD : Hid (P.flushD con d = (Dsk.wrote con P.ripe d).sync.1) := Lib.hid (by unfold Pl.flushD; rw [if_neg HZ.out])
            clear hopb
            go_wp2_with fail
            refine HSy.out.mono ?_
            rintro e wB ⟨rfl, ⟨F2, hL2, hg2⟩, hk2⟩
            rw [← HFlD.out] at hL2
            have HL2 := Lib.hid hL2
            have HKB : Hid (Kept F wA wB) := Lib.hid (HK1.out.trans hk2 fun x hx f => (HG1.out x f).elim id fun e => absurd e (by omega))
            have HGB : Hid (Grows F wA.heap.size F2) := Lib.hid (HG1.out.trans hg2 HK1.out.size)
            have HOb := Lib.hid (HOr.out.kept HKB.out (fun x hx f => (HFu.out x hx).1 f))
            have HC0 : Hid (CleanRel w0 wB bd b mb (P.flushD con d) F2 P S K R con 0 wB) := Lib.hid ⟨hL2, Kept.refl _ _⟩
            clear hL2 hg2 hk2 HSy HK1 HG1 HL1 HOr c0 HFlD
            go_wp2_with fail
            go_loopw [66] (fun i wy => ∃ j : Nat, j ≤ P.ripe.length ∧ i = .int .i64 j ∧ CleanRel w0 wB bd b mb (P.flushD con d) F2 P S K R con j wy) (fun i _ => P.ripe.length - (intOf i).toNat)
            case atStart => exact ⟨0, Nat.zero_le _, rfl, HC0.out⟩
            case round =>
              clear HC0
              obtain ⟨j, hj, rfl, hL1, hk1⟩ := hrel
              have HL1 := Lib.hid hL1
              have HK1 := Lib.hid hk1
              clear hL1 hk1
              by_cases hlt : j < P.ripe.length
              · obtain ⟨gb, go, xv, rfl, hx, hc, -⟩ := (HOb.out.kept HK1.out (fun x hx f => (HFu.out x hx).2 f)).cell (i := j) (by rw [HRl.out.2]; exact hlt)
                obtain rfl : xv = .int .i64 P.ripe[j].1 := by
                  rw [HRn.out j hlt] at hx
                  exact (Option.some.inj hx).symm
                clear hx
                have hmem : P.ripe[j] ∈ (Pl.cleaned (P.ripe.take j) P).all := Pl.cleaned_other _ _ _ (HRm.out _ (List.getElem_mem hlt)) fun x hx e => by
                  obtain ⟨i, hi, hxi⟩ := List.getElem_of_mem hx
                  have hi' : i < j := by rw [List.length_take] at hi; omega
                  rw [List.getElem_take] at hxi
                  exact (List.pairwise_iff_getElem.1 HAp.out i j (by omega) hlt hi') (by rw [hxi]; exact e.symm)
                have HSt := Lib.hid (HL1.out.cleanStep _ hmem)
                have HSu := Lib.hid (Pl.cleaned_succ P.ripe P j hlt)
                have hwj : (Pl.cleaned (P.ripe.take j) P).wrote = P.wrote + j := by
                  rw [(Pl.cleaned_keeps _ _).2.2.2.2.2.2.1, List.length_take]; omega
                have hhd := HL1.out.pool.head
                rw [hwj] at hhd HSt
                clear hwj
                have HKd := Lib.hid (HL1.out.kd)
                generalize P.ripe[j] = pj at *
                obtain ⟨key, x⟩ := pj
                have hlk := HL1.out.pool.look HKd.out hmem
                have hb := (HL1.out.pool.held _ hmem).2
                have hbl : b < wr.heap.size := HL1.out.pool.lt
                have hne : b ≠ x.g := fun e => HL1.out.pool.Sb (by rw [e]; exact (HL1.out.pool.held _ hmem).1)
                have c5 : wr.cell? ⟨b, 5, none⟩ = some (.map (some mb)) := cell_at hhd 5 _ rfl
                have c8 : wr.cell? ⟨b, 8, none⟩ = some (.int .i64 ((P.wrote + j : Nat) : Int)) := cell_at hhd 8 _ rfl
                have f8 := frozen_at hhd 8
                have d2 : wr.cell? ⟨x.g, 2, none⟩ = some (.bool x.dirty) := cell_at hb 2 _ rfl
                have e2 := frozen_at hb 2
                have hwb : P.wrote + j ≤ 2000000000000 := by omega
                clear hb hhd hmem
                generalize P.wrote + j = wj at *
                go_wp2_with fail
                have HN : Hid (CleanRel w0 wB bd b mb (P.flushD con d) F2 P S K R con (j + 1) ((wr.setCell ⟨x.g, 2, none⟩ (.bool false)).setCell ⟨b, 8, none⟩ (.int .i64 ((wj : Int) + 1)))) := Lib.hid (by
                  obtain ⟨s1, s2⟩ := HSt.out
                  rw [← HSu.out] at s1
                  exact ⟨s1, HK1.out.trans' s2⟩)
                clear HSt HSu
                go_roundw
                case rel => exact ⟨j + 1, by omega, by go_num, HN.out⟩
                case measure => simp [intOf]; omega
              · have hje : j = P.ripe.length := by omega
                subst hje
                rw [List.take_of_length_le (Nat.le_refl _)] at HL1
                go_wp2_with fail
                go_ret
                refine ⟨rfl, ⟨F2, HL1.out, fun x hx => (HGB.out x hx).imp id fun e => Nat.le_trans HKw.out.size e⟩, (HKw.out.nob.trans' (HKB.out.mono fun x _ f => .inl f)).trans' (HK1.out.mono fun x _ f => .inr f)⟩
end Go.Proofs.YthppgchmamonnaaGreatDoor
