/- The document's live pool: Flush, Insert, Pin of a page that is not held. The program's pool and the document's: one and the same. No program here. The program's pool and the document's: each call keeps them one and the same. No program here. The program's pool and the document's: Flush keeps them one and the same. No program here. -/
import Derived.Test.YthppgchmamonnaaGreatDoorPq28
import Derived.Test.YthppgchmamonnaaGreatDoorPq34
import Derived.Test.YthppgchmamonnaaGreatDoorPq35
namespace Go.Proofs.YthppgchmamonnaaGreatDoor
open Go.RowKit
theorem PgM.Fine.with {c : PgM} (hf : c.Fine) {bs : List Int} (h1 : bs.length ≤ 400) (h2 : freeIdx c.ss < 60) (h3 : usedOf (withOf c.ss (freeIdx c.ss) bs) ≤ 512) (h4 : InB bs) : ({ c with ss := withOf c.ss (freeIdx c.ss) bs } : PgM).Fine := by
  have hg := hf.good
  refine ⟨⟨hg.kind, hg.id, ?_, withOf_sized hg.size h1, h3, ?_⟩, ?_⟩
  · show (withOf _ _ _).length ≤ 60
    unfold withOf
    split
    · rw [List.length_set]; exact hg.len
    · rw [List.length_append]; have := freeIdx_le c.ss; simp; omega
  · show (withOf _ _ _).getLast? ≠ some none
    unfold withOf
    split
    · rename_i hlt
      have hpos : 0 < c.ss.length := by omega
      have hl := hg.last
      rw [List.getLast?_eq_getElem?] at hl ⊢
      rw [List.length_set]
      by_cases he : freeIdx c.ss = c.ss.length - 1
      · rw [he, List.getElem?_set_self (by omega)]; simp
      · rw [List.getElem?_set_ne he]; exact hl
    · simp
  · intro b' hb'
    simp only [withOf] at hb'
    split at hb'
    · rcases List.mem_or_eq_of_mem_set hb' with e | e
      · exact hf.bytes b' e
      · rw [Option.some.inj e]; exact h4
    · rcases List.mem_append.1 hb' with e | e
      · exact hf.bytes b' e
      · rw [Option.some.inj (List.mem_singleton.1 e)]; exact h4
def DPl.flushA (Q : DPl) (con : Nat → PgM) (d : Dsk) : Dsk × DPl × Nat :=
  if Q.ripeTo Q.pages = [] then (d, Q, 0)
  else if (d.wrL (DPl.pairs con (Q.ripeTo Q.pages))).2 ≠ 0 then ((d.wrL (DPl.pairs con (Q.ripeTo Q.pages))).1, Q, 9)
  else if (d.wrL (DPl.pairs con (Q.ripeTo Q.pages))).1.sync.2 ≠ 0 then ((d.wrL (DPl.pairs con (Q.ripeTo Q.pages))).1.sync.1, Q, 9)
  else ((d.wrL (DPl.pairs con (Q.ripeTo Q.pages))).1.sync.1, Q.cleaned (Q.ripeTo Q.pages), 0)
theorem DPl.cleaned_mem (Q0 : DPl) : ∀ (l : List DHd) (Q : DPl), (∀ x ∈ l, x ∈ Q0.all) → (∀ p ∈ Q.all, ∃ y ∈ Q0.all, p.n = y.n ∧ p.pg = y.pg ∧ p.last = y.last) → Q.pages = Q0.pages ∧ Q.room = Q0.room ∧ Q.clock = Q0.clock ∧ Q.mark = Q0.mark ∧ Q.hits = Q0.hits ∧ Q.reads = Q0.reads ∧ Q.all.length = Q0.all.length →
    (∀ p ∈ (Q.cleaned l).all, ∃ y ∈ Q0.all, p.n = y.n ∧ p.pg = y.pg ∧ p.last = y.last) ∧ (Q.cleaned l).pages = Q0.pages ∧ (Q.cleaned l).room = Q0.room ∧ (Q.cleaned l).clock = Q0.clock ∧ (Q.cleaned l).mark = Q0.mark ∧ (Q.cleaned l).hits = Q0.hits ∧ (Q.cleaned l).reads = Q0.reads ∧ (Q.cleaned l).all.length = Q0.all.length
  | [], Q, _, h, h2 => ⟨h, h2⟩
  | x :: r, Q, hl, h, h2 => by
    refine DPl.cleaned_mem Q0 r (Q.cleanStep x) (fun y hy => hl y (by simp [hy])) (fun p hp => ?_) ⟨h2.1, h2.2.1, h2.2.2.1, h2.2.2.2.1, h2.2.2.2.2.1, h2.2.2.2.2.2.1, ?_⟩
    · rcases DPl.mem_set (Q := Q) hp with rfl | hp
      · exact ⟨x, hl x (by simp), rfl, rfl, rfl⟩
      · exact h p hp
    · exact (DPl.set_len Q _).trans h2.2.2.2.2.2.2
section
variable {w0 w : World} {md m : Nat} {d : Dsk} {Q : DPl} {K Z : Nat → Prop} {con : Nat → PgM}
theorem DLive.flush (h : DLive w0 w md m d Q K con Z) (ho : d.ops ≤ 1000000000) (hw : Q.wrote ≤ 1000000000000) :
    Calls Tryz.prog 55 #[.pointer (some ⟨m, 0, none⟩)] w fun e w' => e = .returned (.int .i64 (Q.flushA con d).2.2) ∧ DLiveTo w0 w md m Z (Q.flushA con d).1 (Q.flushA con d).2.1 K con w' := by
  obtain ⟨DR, S, R, L, hZ⟩ := h
  have hlen := L.len
  have hrm := L.room
  have hpg := L.pages
  have hfit := L.fit
  have hmd := L.disk.lt
  refine (doc_flush w m md Q S L.pool L.under (by omega) d DR L.disk L.SD L.Dm L.Sd L.mmd con (fun x hx => ?_) ho hw (by omega)).mono ?_
  · have hK := (L.held x hx).1
    obtain ⟨hpa, hfi⟩ := L.page _ hK
    have h1 := L.far _ hK _ (.inl rfl)
    have hn := L.keyed x hx
    exact ⟨R x.pg, hpa, h1.2.2.1, h1.2.2.2.1, fun e => (L.far _ hK m (.inr e)).2.2.1 rfl, fun e => (L.far _ hK md (.inr e)).2.2.2.1 rfl, ⟨hfi.good.len, fun s hs => Nat.le_trans (hfi.good.size s hs) (by omega)⟩, hfi.good.used, hfi.good.id.1, hfi.good.id.2, by omega⟩
  · rintro e w' ⟨h1, h2, h3, h4⟩
    have key : ∀ (d' : Dsk) (Q' : DPl), DFl w m md S DR Q' d' w' → d'.good.length = d.good.length → Q'.pages = Q.pages → Q'.room = Q.room → (∀ x ∈ Q'.all, x.n < Q.pages) → (∀ x ∈ Q'.all, x.last ≤ Q'.clock) → Q'.all.length ≤ Q.room → (∀ y ∈ Q'.all, K y.pg ∧ (con y.pg).id = (y.n : Int)) → DLiveTo w0 w md m Z d' Q' K con w' := by
      rintro d' Q' ⟨R', q1, q2, q3, q4, q5, q6⟩ a1 a2 a3 a4 a5 a6 a7
      refine ⟨fun x => Z x ∨ w.heap.size ≤ x, ⟨R', S, R, L.next q1 (L.under.mono q6.size) q2 q6 (Grows.refl _ _) q3 q4 q5 L.Sd (fun _ _ f => f) a1 a2 a3 a4 a5 a6 a7, fun x hx => ?_⟩, fun x hx => hx, q6.mono fun x _ q => hZ x (by rcases q with q | q | q; exact .inr (.inr (.inl q)); exact .inr (.inr (.inr (.inl q))); exact .inl q)⟩
      rcases hx with q | q | q
      · exact .inl (hZ x (.inl q))
      · exact (q3 x q).imp (fun q => hZ x (.inr (.inl q))) (fun q => q)
      · exact .inl (hZ x (.inr (.inr q)))
    have hgl : (d.wrL (DPl.pairs con (Q.ripeTo Q.pages))).1.good.length = d.good.length := by
      have := (Dsk.wrL_ops d (DPl.pairs con (Q.ripeTo Q.pages)) _ (Nat.le_refl _)).2
      rw [List.take_length] at this
      rw [this]
    obtain ⟨m1, m2, m3, m4, m5, m6, m7, m8⟩ := DPl.cleaned_mem Q (Q.ripeTo Q.pages) Q (fun x hx => (DPl.ripeTo_mem Q _ x hx).1) (fun p hp => ⟨p, hp, rfl, rfl, rfl⟩) ⟨rfl, rfl, rfl, rfl, rfl, rfl, rfl⟩
    unfold DPl.flushA
    by_cases c1 : Q.ripeTo Q.pages = []
    · rw [if_pos c1]
      obtain ⟨rfl, q⟩ := h1 c1
      exact ⟨rfl, key d Q q rfl rfl rfl L.keyed L.last L.len L.held⟩
    · rw [if_neg c1]
      by_cases c2 : (d.wrL (DPl.pairs con (Q.ripeTo Q.pages))).2 ≠ 0
      · rw [if_pos c2]
        obtain ⟨rfl, q⟩ := h2 c1 c2
        exact ⟨rfl, key _ Q q hgl rfl rfl L.keyed L.last L.len L.held⟩
      · rw [if_neg c2]
        have c2' : (d.wrL (DPl.pairs con (Q.ripeTo Q.pages))).2 = 0 := by omega
        by_cases c3 : (d.wrL (DPl.pairs con (Q.ripeTo Q.pages))).1.sync.2 ≠ 0
        · rw [if_pos c3]
          obtain ⟨rfl, q⟩ := h3 c1 c2' c3
          exact ⟨rfl, key _ Q q (by rw [Dsk.sync_len]; exact hgl) rfl rfl L.keyed L.last L.len L.held⟩
        · rw [if_neg c3]
          obtain ⟨rfl, q⟩ := h4 c1 c2' (by omega)
          refine ⟨rfl, key _ _ q (by rw [Dsk.sync_len]; exact hgl) m2 m3 (fun x hx => ?_) (fun x hx => ?_) (by rw [m8]; exact L.len) (fun x hx => ?_)⟩
          · obtain ⟨y, hy, e1, e2, e3⟩ := m1 x hx
            rw [e1]; exact L.keyed y hy
          · obtain ⟨y, hy, e1, e2, e3⟩ := m1 x hx
            rw [e3, m4]; exact L.last y hy
          · obtain ⟨y, hy, e1, e2, e3⟩ := m1 x hx
            rw [e1, e2]; exact L.held y hy
theorem DLive.insert (h : DLive w0 w md m d Q K con Z) (pg : Nat) (hpg : K pg) (v : Value) (bs : List Int) (G : Nat → Prop) (hb : Reads w v (bs.map (Value.int .u8)) G) (hG : ∀ x, G x → ¬ Z x)
    (h1 : bs.length ≤ 400) (h2 : freeIdx (con pg).ss < 60) (h3 : usedOf (withOf (con pg).ss (freeIdx (con pg).ss) bs) ≤ 512) (h4 : InB bs) :
    Calls Tryz.prog 57 #[.pointer (some ⟨pg, 0, none⟩), v] w fun e w' => e = .returned (.tuple #[.int .i64 (freeIdx (con pg).ss), .int .i64 0]) ∧
      DLiveTo w0 w md m Z d Q K (fun x => if x = pg then { con pg with ss := withOf (con pg).ss (freeIdx (con pg).ss) bs } else con x) w' := by
  obtain ⟨DR, S, R, L, hZ⟩ := h
  obtain ⟨hpa, hfi⟩ := L.page pg hpg
  have hZp : ∀ y, (y = pg ∨ R pg y) → Z y := fun y hy => hZ y (.inr (.inr (.inr (.inr ⟨pg, hpg, hy⟩))))
  refine (dpage_insert w pg (con pg) (R pg) hpa ⟨hfi.good.len, fun s hs => Nat.le_trans (hfi.good.size s hs) (by omega)⟩ v bs G hb (fun x hx => ⟨fun e => hG x hx (hZp x (.inr e)), fun e => hG x hx (hZp x (.inl e))⟩) h1 h2 h3).mono ?_
  rintro e w' ⟨rfl, ⟨R', hp', hg⟩, hk⟩
  have hs := hk.size
  have h0 := L.kept.size
  have hml := L.pool.lt
  have hdl := L.disk.lt
  have hpl := (L.far pg hpg pg (.inl rfl)).2.2.2.2.2
  have hnot : ∀ y, (S y ∨ DR y ∨ y = m ∨ y = md) → ¬ PgF pg (R pg) y := fun y hy hf => by
    obtain ⟨f1, f2, f3, f4, -, -⟩ := L.far pg hpg y hf
    rcases hy with e | e | e | e
    · exact f1 e
    · exact f2 e
    · exact f3 e
    · exact f4 e
  have hR'n : ¬ R' pg := by obtain ⟨_, _, _, _, _, q⟩ := hp'; exact q
  refine ⟨rfl, fun x => Z x ∨ w.heap.size ≤ x, ⟨DR, S, fun x y => if x = pg then R' y ∧ y < w'.heap.size else R x y, ⟨L.pool.kept hk (hnot m (.inr (.inr (.inl rfl)))) (fun x hx => hnot x (.inl hx)), L.under.mono hs, L.disk.kept hk (hnot md (.inr (.inr (.inr rfl)))) (fun x hx => hnot x (.inr (.inl hx))), L.fit, L.keyed, L.last, L.len, L.room, fun x hx => ?_, fun y hy => ?_, fun x hx y hy => ?_, fun x y hx hy hne => ?_, L.mmd, L.SD, L.Dm, L.Sd, L.new, L.kept.trans hk fun x hx hf => ?_⟩, fun x hx => ?_⟩, fun x hx => hx, hk.mono fun x _ q => hZp x q⟩
  · by_cases hxp : x = pg
    · subst hxp
      simp only [if_true]
      exact ⟨hp'.mono (fun y hy q => ⟨q, hy⟩) (fun q => hR'n q.1), hfi.with h1 h2 h3 h4⟩
    · simp only [if_neg hxp]
      refine ⟨(L.page x hx).1.kept hk (fun q => ?_) (fun y hy q => ?_), (L.page x hx).2⟩
      · rcases q with q | q
        · exact hxp q
        · exact (L.apart pg x hpg hx (fun e => hxp e.symm)).2 q
      · rcases q with q | q
        · exact (L.apart x pg hx hpg hxp).2 (by rw [← q]; exact hy)
        · exact (L.apart x pg hx hpg hxp).1 y hy q
  · have := L.held y hy
    by_cases hxp : y.pg = pg
    · rw [if_pos hxp]; exact ⟨this.1, by rw [← hxp]; exact this.2⟩
    · rw [if_neg hxp]; exact this
  · have hnew : w.heap.size ≤ y → y < w'.heap.size → ¬ S y ∧ ¬ DR y ∧ y ≠ m ∧ y ≠ md ∧ w0.heap.size ≤ y ∧ y < w'.heap.size := fun hy hy2 => ⟨fun q => by have := L.under y q; omega, fun q => by have := L.disk.under y q; omega, by omega, by omega, by omega, hy2⟩
    have hold : (y = x ∨ R x y) → ¬ S y ∧ ¬ DR y ∧ y ≠ m ∧ y ≠ md ∧ w0.heap.size ≤ y ∧ y < w'.heap.size := fun q => by
      obtain ⟨f1, f2, f3, f4, f5, f6⟩ := L.far x hx y q
      exact ⟨f1, f2, f3, f4, f5, by omega⟩
    rcases hy with hy | hy
    · exact hold (.inl hy)
    · by_cases hxp : x = pg
      · rw [if_pos hxp] at hy
        rcases hg y hy.1 with q | q
        · exact hold (.inr (by rw [hxp]; exact q))
        · exact hnew q hy.2
      · rw [if_neg hxp] at hy
        exact hold (.inr hy)
  · have hxl := fun z hz => (L.far x hx z hz).2.2.2.2.2
    have hyl := fun z hz => (L.far y hy z hz).2.2.2.2.2
    by_cases hxp : x = pg
    · have hyp : y ≠ pg := fun e => hne (hxp.trans e.symm)
      simp only [if_pos hxp, if_neg hyp]
      have ha := L.apart x y hx hy hne
      rw [hxp] at ha
      refine ⟨fun z hz hz2 => ?_, fun hz => ?_⟩
      · rcases hg z hz.1 with q | q
        · exact ha.1 z q hz2
        · have := hyl z (.inr hz2); omega
      · rcases hg y hz.1 with q | q
        · exact ha.2 q
        · have := hyl y (.inl rfl); omega
    · simp only [if_neg hxp]
      have ha := L.apart x y hx hy hne
      refine ⟨fun z hz hz2 => ?_, ha.2⟩
      by_cases hyp : y = pg
      · simp only [if_pos hyp] at hz2
        rcases hg z hz2.1 with q | q
        · exact ha.1 z hz (by rw [hyp]; exact q)
        · have := hxl z (.inr hz); omega
      · simp only [if_neg hyp] at hz2
        exact ha.1 z hz hz2
  · have := (L.far pg hpg x hf).2.2.2.2.1
    omega
  · rcases hx with q | q | q | q | ⟨y, hy, q⟩
    · exact .inl (hZ x (.inl q))
    · exact .inl (hZ x (.inr (.inl q)))
    · exact .inl (hZ x (.inr (.inr (.inl q))))
    · exact .inl (hZ x (.inr (.inr (.inr (.inl q)))))
    · by_cases hyp : y = pg
      · simp only [if_pos hyp] at q
        rcases q with q | q
        · exact .inl (hZp x (.inl (q.trans hyp)))
        · exact (hg x q.1).imp (fun q => hZp x (.inr q)) (fun q => q)
      · simp only [if_neg hyp] at q
        exact .inl (hZ x (.inr (.inr (.inr (.inr ⟨y, hy, q⟩)))))
end
structure Twin (P : Pl) (con : Nat → PgM) (Q : DPl) (dcon : Nat → PgM) (f : Int → DHd) (φ : Nat → Nat) (K : Nat → Prop) : Prop where
  pages : Q.pages = P.pages
  room : Q.room = P.room
  mark : Q.mark = P.mark
  hits : Q.hits = P.hits
  reads : Q.reads = P.reads
  wrote : Q.wrote = P.wrote
  perm : Q.all.Perm (P.all.map fun p => f p.1)
  rise : P.all.Pairwise fun p q => p.1 < q.1
  key : ∀ p ∈ P.all, ((f p.1).n : Int) = p.1
  same : ∀ p ∈ P.all, (f p.1).pins = p.2.pins ∧ (f p.1).dirty = p.2.dirty ∧ (f p.1).lsn = p.2.lsn ∧ (f p.1).pg = φ p.2.pg
  order : ∀ p ∈ P.all, ∀ q ∈ P.all, (p.2.used < q.2.used ↔ (f p.1).last < (f q.1).last)
  once : ∀ p ∈ P.all, ∀ q ∈ P.all, p.2.used = q.2.used → p = q
  uc : ∀ p ∈ P.all, p.2.used ≤ P.clock
  lc : ∀ p ∈ P.all, (f p.1).last ≤ Q.clock
  held : ∀ p ∈ P.all, K p.2.pg
  con : ∀ x, K x → con x = dcon (φ x)
section
variable {P : Pl} {con : Nat → PgM} {Q : DPl} {dcon : Nat → PgM} {f : Int → DHd} {φ : Nat → Nat} {K : Nat → Prop}
theorem Twin.mem (T : Twin P con Q dcon f φ K) {y : DHd} : y ∈ Q.all ↔ ∃ p ∈ P.all, y = f p.1 := by
  rw [T.perm.mem_iff, List.mem_map]
  exact ⟨fun ⟨p, h, e⟩ => ⟨p, h, e.symm⟩, fun ⟨p, h, e⟩ => ⟨p, h, e.symm⟩⟩
theorem Twin.len (T : Twin P con Q dcon f φ K) : Q.all.length = P.all.length := by rw [T.perm.length_eq, List.length_map]
theorem Twin.find (T : Twin P con Q dcon f φ K) {k : Int} {x : Hd} (hx : (k, x) ∈ P.all) : Q.find k = some (f k) := by
  have hm : f k ∈ Q.all := T.mem.2 ⟨_, hx, rfl⟩
  have hn : ((f k).n : Int) = k := T.key _ hx
  cases hf : Q.find k with
  | none =>
    have := List.find?_eq_none.1 hf _ hm
    simp [hn] at this
  | some y =>
    obtain ⟨hy, he⟩ := DPl.find_mem hf
    obtain ⟨p, hp, rfl⟩ := T.mem.1 hy
    have := T.key p hp
    rw [show p.1 = k from by omega]
theorem Twin.find_no (T : Twin P con Q dcon f φ K) {k : Int} (h : Proofs.YthppgchmamonnaaGreatDoor.find P.map k = none) : Q.find k = none := by
  rw [find_none] at h
  refine List.find?_eq_none.2 fun y hy he => ?_
  obtain ⟨p, hp, rfl⟩ := T.mem.1 hy
  have h1 := T.key p hp
  have h2 := h (p.1, p.2.g) (List.mem_map.2 ⟨p, hp, rfl⟩)
  simp only [beq_iff_eq] at he
  exact h2 (by show p.1 = k; omega)
theorem Twin.nums (T : Twin P con Q dcon f φ K) (hk : ∀ p ∈ P.all, 0 ≤ p.1 ∧ p.1 < (P.pages : Int)) (dirty : Bool) :
    Q.nums dirty Q.pages = (P.all.filter fun p => !dirty || p.2.dirty).map fun p => p.1 := by
  refine rising_ext _ _ ?_ ?_ fun x => ?_
  · unfold DPl.nums
    refine List.pairwise_map.2 ((List.Pairwise.filter _ List.pairwise_lt_range).imp fun h => ?_)
    omega
  · exact List.pairwise_map.2 ((T.rise.filter _))
  · unfold DPl.nums
    rw [List.mem_map, List.mem_map]
    constructor
    · rintro ⟨n, hn, rfl⟩
      rw [List.mem_filter, List.mem_range] at hn
      obtain ⟨h1, h2⟩ := hn
      cases hf : Q.find (n : Int) with
      | none => rw [hf] at h2; cases h2
      | some y =>
        rw [hf] at h2
        obtain ⟨hy, he⟩ := DPl.find_mem hf
        obtain ⟨p, hp, rfl⟩ := T.mem.1 hy
        have h3 := T.key p hp
        refine ⟨p, List.mem_filter.2 ⟨hp, ?_⟩, by omega⟩
        rw [← (T.same p hp).2.1]; exact h2
    · rintro ⟨p, hp, rfl⟩
      rw [List.mem_filter] at hp
      have hb := hk p hp.1
      refine ⟨p.1.toNat, List.mem_filter.2 ⟨List.mem_range.2 (by rw [T.pages]; omega), ?_⟩, by omega⟩
      have he : ((p.1.toNat : Nat) : Int) = p.1 := by omega
      rw [he, T.find (k := p.1) (x := p.2) hp.1]
      show (!dirty || (f p.1).dirty) = true
      rw [(T.same p hp.1).2.1]; exact hp.2
theorem bestOf_spec (P : Pl) : ∀ (l : List (Int × Hd)), (bestOf P l = none → ∀ p ∈ l, P.may p.2 = false) ∧ ∀ x, bestOf P l = some x → x ∈ l ∧ P.may x.2 = true ∧ ∀ p ∈ l, P.may p.2 = true → x.2.used ≤ p.2.used := by
  intro l
  have key : ∀ n, n ≤ l.length → (bestOf P (l.take n) = none → ∀ p ∈ l.take n, P.may p.2 = false) ∧ ∀ x, bestOf P (l.take n) = some x → ∀ p ∈ l.take n, P.may p.2 = true → x.2.used ≤ p.2.used := by
    intro n
    induction n with
    | zero => intro _; exact ⟨fun _ p hp => by simp at hp, fun x hx p hp => by simp at hp⟩
    | succ n ih =>
      intro hn
      obtain ⟨i1, i2⟩ := ih (by omega)
      rw [bestOf_take P l n (by omega), List.take_succ_eq_append_getElem (by omega : n < l.length)]
      generalize l[n] = y
      cases hm : P.may y.2 with
      | false =>
        rw [better_no hm]
        refine ⟨fun h p hp => ?_, fun x hx p hp hpm => ?_⟩
        · rcases List.mem_append.1 hp with hp | hp
          · exact i1 h p hp
          · rw [List.mem_singleton] at hp; subst hp; exact hm
        · rcases List.mem_append.1 hp with hp | hp
          · exact i2 x hx p hp hpm
          · rw [List.mem_singleton] at hp; subst hp; rw [hm] at hpm; cases hpm
      | true =>
        cases ha : bestOf P (l.take n) with
        | none =>
          rw [better_none hm]
          refine ⟨(fun h => by cases h), fun x hx p hp hpm => ?_⟩
          obtain rfl := Option.some.inj hx
          rcases List.mem_append.1 hp with hp | hp
          · rw [i1 ha p hp] at hpm; cases hpm
          · rw [List.mem_singleton] at hp; subst hp; exact Nat.le_refl _
        | some z =>
          rw [better_some hm]
          have hz := i2 z ha
          split
          · rename_i hlt
            refine ⟨(fun h => by cases h), fun x hx p hp hpm => ?_⟩
            obtain rfl := Option.some.inj hx
            rcases List.mem_append.1 hp with hp | hp
            · exact Nat.le_trans (Nat.le_of_lt hlt) (hz p hp hpm)
            · rw [List.mem_singleton] at hp; subst hp; exact Nat.le_refl _
          · rename_i hlt
            refine ⟨(fun h => by cases h), fun x hx p hp hpm => ?_⟩
            obtain rfl := Option.some.inj hx
            rcases List.mem_append.1 hp with hp | hp
            · exact hz p hp hpm
            · rw [List.mem_singleton] at hp; subst hp; omega
  have h := key l.length (Nat.le_refl _)
  rw [List.take_length] at h
  exact ⟨h.1, fun x hx => ⟨(bestOf_mem P l x hx).1, (bestOf_mem P l x hx).2, h.2 x hx⟩⟩
theorem oldOf_spec (mark : Int) : ∀ (l : List DHd), (oldOf mark l = none → ∀ p ∈ l, p.may mark = false) ∧ ∀ x, oldOf mark l = some x → x ∈ l ∧ x.may mark = true ∧ ∀ p ∈ l, p.may mark = true → x.last ≤ p.last := by
  intro l
  have key : ∀ n, n ≤ l.length → (oldOf mark (l.take n) = none → ∀ p ∈ l.take n, p.may mark = false) ∧ ∀ x, oldOf mark (l.take n) = some x → ∀ p ∈ l.take n, p.may mark = true → x.last ≤ p.last := by
    intro n
    induction n with
    | zero => intro _; exact ⟨fun _ p hp => by simp at hp, fun x hx p hp => by simp at hp⟩
    | succ n ih =>
      intro hn
      obtain ⟨i1, i2⟩ := ih (by omega)
      rw [oldOf_take mark l n (by omega), List.take_succ_eq_append_getElem (by omega : n < l.length)]
      generalize l[n] = y
      cases hm : y.may mark with
      | false =>
        rw [older_no hm]
        refine ⟨fun h p hp => ?_, fun x hx p hp hpm => ?_⟩
        · rcases List.mem_append.1 hp with hp | hp
          · exact i1 h p hp
          · rw [List.mem_singleton] at hp; subst hp; exact hm
        · rcases List.mem_append.1 hp with hp | hp
          · exact i2 x hx p hp hpm
          · rw [List.mem_singleton] at hp; subst hp; rw [hm] at hpm; cases hpm
      | true =>
        cases ha : oldOf mark (l.take n) with
        | none =>
          rw [older_none hm]
          refine ⟨(fun h => by cases h), fun x hx p hp hpm => ?_⟩
          obtain rfl := Option.some.inj hx
          rcases List.mem_append.1 hp with hp | hp
          · rw [i1 ha p hp] at hpm; cases hpm
          · rw [List.mem_singleton] at hp; subst hp; exact Nat.le_refl _
        | some z =>
          rw [older_some hm]
          have hz := i2 z ha
          split
          · rename_i hlt
            refine ⟨(fun h => by cases h), fun x hx p hp hpm => ?_⟩
            obtain rfl := Option.some.inj hx
            rcases List.mem_append.1 hp with hp | hp
            · exact Nat.le_trans (Nat.le_of_lt hlt) (hz p hp hpm)
            · rw [List.mem_singleton] at hp; subst hp; exact Nat.le_refl _
          · rename_i hlt
            refine ⟨(fun h => by cases h), fun x hx p hp hpm => ?_⟩
            obtain rfl := Option.some.inj hx
            rcases List.mem_append.1 hp with hp | hp
            · exact hz p hp hpm
            · rw [List.mem_singleton] at hp; subst hp; omega
  have h := key l.length (Nat.le_refl _)
  rw [List.take_length] at h
  exact ⟨h.1, fun x hx => ⟨(oldOf_mem mark l x hx).1, (oldOf_mem mark l x hx).2, h.2 x hx⟩⟩
theorem Twin.may (T : Twin P con Q dcon f φ K) {p : Int × Hd} (hp : p ∈ P.all) : (f p.1).may Q.mark = P.may p.2 := by
  obtain ⟨h1, h2, h3, -⟩ := T.same p hp
  unfold DHd.may Pl.may
  rw [h1, h2, h3, T.mark]
theorem Twin.best (T : Twin P con Q dcon f φ K) : oldOf Q.mark Q.all = (bestOf P P.all).map fun p => f p.1 := by
  obtain ⟨b1, b2⟩ := bestOf_spec P P.all
  obtain ⟨o1, o2⟩ := oldOf_spec Q.mark Q.all
  cases hb : bestOf P P.all with
  | none =>
    cases ho : oldOf Q.mark Q.all with
    | none => rfl
    | some y =>
      obtain ⟨h1, h2, -⟩ := o2 y ho
      obtain ⟨p, hp, rfl⟩ := T.mem.1 h1
      rw [T.may hp, b1 hb p hp] at h2
      cases h2
  | some x =>
    obtain ⟨h1, h2, h3⟩ := b2 x hb
    cases ho : oldOf Q.mark Q.all with
    | none =>
      have := o1 ho (f x.1) (T.mem.2 ⟨x, h1, rfl⟩)
      rw [T.may h1, h2] at this
      cases this
    | some y =>
      obtain ⟨g1, g2, g3⟩ := o2 y ho
      obtain ⟨p, hp, rfl⟩ := T.mem.1 g1
      rw [T.may hp] at g2
      have q1 := h3 p hp g2
      have q2 := g3 (f x.1) (T.mem.2 ⟨x, h1, rfl⟩) (by rw [T.may h1]; exact h2)
      have q3 := (T.order x h1 p hp).1
      rcases Nat.lt_or_ge x.2.used p.2.used with h | h
      · have := q3 h; omega
      · rw [T.once x h1 p hp (by omega)]; rfl
end
section
variable {P : Pl} {con : Nat → PgM} {Q : DPl} {dcon : Nat → PgM} {f : Int → DHd} {φ : Nat → Nat} {K : Nat → Prop}
theorem Twin.tick (T : Twin P con Q dcon f φ K) : Twin P con { Q with clock := Q.clock + 1 } dcon f φ K :=
  ⟨T.pages, T.room, T.mark, T.hits, T.reads, T.wrote, T.perm, T.rise, T.key, T.same, T.order, T.once, T.uc, fun p hp => Nat.le_succ_of_le (T.lc p hp), T.held, T.con⟩
theorem Twin.turn {P' : Pl} {Q' : DPl} (T : Twin P con Q dcon f φ K) (ha : P'.all = P.all) (hb : Q'.all = Q.all) (h1 : Q'.pages = P'.pages) (h2 : Q'.room = P'.room) (h3 : Q'.mark = P'.mark) (h4 : Q'.hits = P'.hits) (h5 : Q'.reads = P'.reads) (h6 : Q'.wrote = P'.wrote) (h7 : P.clock ≤ P'.clock) (h8 : Q.clock ≤ Q'.clock) : Twin P' con Q' dcon f φ K :=
  ⟨h1, h2, h3, h4, h5, h6, by rw [ha, hb]; exact T.perm, by rw [ha]; exact T.rise, by rw [ha]; exact T.key, by rw [ha]; exact T.same, by rw [ha]; exact T.order, by rw [ha]; exact T.once, by rw [ha]; exact fun p hp => Nat.le_trans (T.uc p hp) h7, by rw [ha]; exact fun p hp => Nat.le_trans (T.lc p hp) h8, by rw [ha]; exact T.held, T.con⟩
theorem Twin.drop (T : Twin P con Q dcon f φ K) {x : Int × Hd} (hx : x ∈ P.all) : Twin { P with all := P.all.filter fun p => !(p.1 == x.1) } con (Q.del (f x.1).n) dcon f φ K := by
  have hm : ∀ p ∈ P.all.filter (fun p => !(p.1 == x.1)), p ∈ P.all := fun p hp => (List.mem_filter.1 hp).1
  refine ⟨T.pages, T.room, T.mark, T.hits, T.reads, T.wrote, ?_, T.rise.filter _, fun p hp => T.key p (hm p hp), fun p hp => T.same p (hm p hp), fun p hp q hq => T.order p (hm p hp) q (hm q hq), fun p hp q hq => T.once p (hm p hp) q (hm q hq), fun p hp => T.uc p (hm p hp), fun p hp => T.lc p (hm p hp), fun p hp => T.held p (hm p hp), T.con⟩
  show (Q.all.filter _).Perm ((P.all.filter _).map _)
  have h := T.perm.filter (fun y : DHd => !(y.n == (f x.1).n))
  rw [List.filter_map] at h
  refine h.trans (List.Perm.of_eq ?_)
  congr 1
  refine List.filter_congr fun p hp => ?_
  have h1 := T.key p hp
  have h2 := T.key x hx
  show (!((f p.1).n == (f x.1).n)) = !(p.1 == x.1)
  by_cases e : p.1 = x.1
  · rw [e]; simp
  · have hne : (f p.1).n ≠ (f x.1).n := fun q => e (by omega)
    rw [show ((f p.1).n == (f x.1).n) = false from by simpa using hne, show (p.1 == x.1) = false from by simpa using e]
theorem Twin.page (T : Twin P con Q dcon f φ K) {p : Int × Hd} (hp : p ∈ P.all) : dcon (f p.1).pg = con p.2.pg := by
  rw [(T.same p hp).2.2.2, T.con _ (T.held p hp)]
theorem Twin.evict (T : Twin P con Q dcon f φ K) (hk : ∀ p ∈ P.all, 0 ≤ p.1) (d : Dsk) :
    (DPl.evictA dcon Q d).1 = (P.evictA con d).1 ∧ (DPl.evictA dcon Q d).2.2 = (P.evictA con d).2.2 ∧ Twin (P.evictA con d).2.1 con (DPl.evictA dcon Q d).2.1 dcon f φ K := by
  unfold DPl.evictA Pl.evictA
  rw [T.len]
  by_cases hl : P.all.length < P.room
  · rw [if_pos hl, if_pos (show P.all.length < Q.room from by rw [T.room]; exact hl)]
    exact ⟨rfl, rfl, T⟩
  · rw [if_neg hl, if_neg (show ¬ P.all.length < Q.room from by rw [T.room]; exact hl), T.best]
    cases hb : bestOf P P.all with
    | none => exact ⟨rfl, rfl, T⟩
    | some x =>
      have hx := (bestOf_mem P _ _ hb).1
      have hn : (f x.1).n = x.1.toNat := by have := T.key x hx; have := hk x hx; omega
      simp only [Option.map_some]
      rw [(T.same x hx).2.1, T.page hx, hn]
      cases hd : x.2.dirty with
      | false =>
        simp only [Bool.false_eq_true, if_false]
        exact ⟨trivial, trivial, by rw [← hn]; exact T.drop hx⟩
      | true =>
        simp only [if_true]
        generalize d.save (8 * x.1.toNat) (bytesOf (con x.2.pg)) = sv
        by_cases hs : sv.2 = 0
        · rw [if_pos hs, if_pos hs]
          refine ⟨rfl, rfl, ?_⟩
          have T1 : Twin { P with wrote := P.wrote + 1 } con { Q with wrote := Q.wrote + 1 } dcon f φ K := T.turn rfl rfl T.pages T.room T.mark T.hits T.reads (by show Q.wrote + 1 = P.wrote + 1; rw [T.wrote]) (Nat.le_refl _) (Nat.le_refl _)
          have T2 : Twin { P with wrote := P.wrote + 1, all := P.all.filter fun p => !(p.1 == x.1) } con (DPl.del { Q with wrote := Q.wrote + 1 } x.1.toNat) dcon f φ K := by rw [← hn]; exact T1.drop hx
          simpa only [if_pos hs] using T2
        · rw [if_neg hs, if_neg hs]
          exact ⟨rfl, rfl, T⟩
theorem Twin.set (T : Twin P con Q dcon f φ K) {k : Int} {x : Hd} (hx : (k, x) ∈ P.all) (x' : Hd) (y' : DHd) (hn : y'.n = (f k).n) (hpg : x'.pg = x.pg) (h1 : y'.pins = x'.pins) (h2 : y'.dirty = x'.dirty) (h3 : y'.lsn = x'.lsn) (h4 : y'.pg = (f k).pg)
    (hu : (x'.used = x.used ∧ y'.last = (f k).last) ∨ ((∀ p ∈ P.all, p.2.used < x'.used) ∧ ∀ p ∈ P.all, (f p.1).last < y'.last)) (hc : x'.used ≤ P.clock) (hl : y'.last ≤ Q.clock) :
    Twin (P.set k x') con (Q.set y') dcon (fun j => if j = k then y' else f j) φ K := by
  have hmem : ∀ p ∈ (P.set k x').all, (p = (k, x')) ∨ (p ∈ P.all ∧ p.1 ≠ k) := fun p hp => by
    obtain ⟨q, hq, rfl⟩ := List.mem_map.1 hp
    by_cases e : q.1 = k
    · rw [if_pos e]; exact .inl rfl
    · rw [if_neg e]; exact .inr ⟨hq, e⟩
  have hky := T.key _ hx
  have hsa := T.same _ hx
  simp only at hky hsa
  have hord : ∀ p ∈ P.all, p.1 ≠ k → (x'.used < p.2.used ↔ y'.last < (f p.1).last) ∧ (p.2.used < x'.used ↔ (f p.1).last < y'.last) ∧ x'.used ≠ p.2.used := fun p hp hne => by
    have o1 := T.order _ hx p hp
    have o2 := T.order p hp _ hx
    have o3 := T.once _ hx p hp
    simp only at o1 o2 o3
    rcases hu with ⟨e1, e2⟩ | ⟨g1, g2⟩
    · rw [e1, e2]
      exact ⟨o1, o2, fun e => hne (by rw [← o3 e])⟩
    · have q1 := g1 p hp
      have q2 := g2 p hp
      exact ⟨⟨fun h => by omega, fun h => by omega⟩, ⟨fun _ => q2, fun _ => q1⟩, by omega⟩
  refine ⟨T.pages, T.room, T.mark, T.hits, T.reads, T.wrote, ?_, ?_, fun p hp => ?_, fun p hp => ?_, fun p hp q hq => ?_, fun p hp q hq h => ?_, fun p hp => ?_, fun p hp => ?_, fun p hp => ?_, T.con⟩
  · show (Q.all.map _).Perm ((P.all.map _).map _)
    have h := T.perm.map (fun y : DHd => if y.n = y'.n then y' else y)
    rw [List.map_map] at h ⊢
    refine h.trans (List.Perm.of_eq (List.map_congr_left fun p hp => ?_))
    have hp1 := T.key p hp
    show (if (f p.1).n = y'.n then y' else f p.1) = if (if p.1 = k then (k, x') else p).1 = k then y' else f (if p.1 = k then (k, x') else p).1
    by_cases e : p.1 = k
    · simp only [if_pos e, if_true]
      rw [if_pos (by rw [hn, e])]
    · simp only [if_neg e]
      rw [if_neg (fun q => e (by omega))]
  · refine List.pairwise_map.2 (T.rise.imp fun {a b} h => ?_)
    have e1 : ∀ a : Int × Hd, (if a.1 = k then (k, x') else a).1 = a.1 := fun a => by split <;> simp_all
    rw [e1, e1]; exact h
  · rcases hmem p hp with rfl | ⟨hp', hne⟩
    · simp only [if_true]; rw [hn]; exact hky
    · simp only [if_neg hne]; exact T.key p hp'
  · rcases hmem p hp with rfl | ⟨hp', hne⟩
    · simp only [if_true]; rw [hpg]; exact ⟨h1, h2, h3, by rw [h4]; exact hsa.2.2.2⟩
    · simp only [if_neg hne]; exact T.same p hp'
  · rcases hmem p hp with rfl | ⟨hp', hne⟩ <;> rcases hmem q hq with rfl | ⟨hq', hne'⟩
    · simp
    · simp only [if_true, if_neg hne']; exact (hord q hq' hne').1
    · simp only [if_true, if_neg hne]; exact (hord p hp' hne).2.1
    · simp only [if_neg hne, if_neg hne']; exact T.order p hp' q hq'
  · rcases hmem p hp with rfl | ⟨hp', hne⟩ <;> rcases hmem q hq with rfl | ⟨hq', hne'⟩
    · rfl
    · exact absurd h (hord q hq' hne').2.2
    · exact absurd h.symm (hord p hp' hne).2.2
    · exact T.once p hp' q hq' h
  · rcases hmem p hp with rfl | ⟨hp', hne⟩
    · exact hc
    · exact T.uc p hp'
  · rcases hmem p hp with rfl | ⟨hp', hne⟩
    · simp only [if_true]; exact hl
    · simp only [if_neg hne]; exact T.lc p hp'
  · rcases hmem p hp with rfl | ⟨hp', hne⟩
    · show K x'.pg; rw [hpg]; exact (T.held _ hx :)
    · exact T.held p hp'
theorem Twin.hit (T : Twin P con Q dcon f φ K) {k : Int} {x : Hd} (hx : (k, x) ∈ P.all) : Twin (P.hit k x) con (Q.hit (f k)) dcon (fun j => if j = k then { f k with pins := (f k).pins + 1, last := Q.clock + 1 } else f j) φ K := by
  have T1 : Twin { P with hits := P.hits + 1, clock := P.clock + 1 } con { Q with hits := Q.hits + 1, clock := Q.clock + 1 } dcon f φ K := T.turn rfl rfl T.pages T.room T.mark (by show Q.hits + 1 = P.hits + 1; rw [T.hits]) T.reads T.wrote (Nat.le_succ _) (Nat.le_succ _)
  have hs := T.same _ hx
  exact T1.set hx { x with pins := x.pins + 1, used := P.clock + 1 } { f k with pins := (f k).pins + 1, last := Q.clock + 1 } rfl rfl (by show (f k).pins + 1 = x.pins + 1; rw [hs.1]) hs.2.1 hs.2.2.1 rfl
    (.inr ⟨fun p hp => Nat.lt_succ_of_le (T.uc p hp), fun p hp => Nat.lt_succ_of_le (T.lc p hp)⟩) (Nat.le_refl _) (Nat.le_refl _)
theorem Twin.unpin (T : Twin P con Q dcon f φ K) {k : Int} {x : Hd} (hx : (k, x) ∈ P.all) (y : Bool) (n : Int) : Twin (P.set k (x.less y n)) con (Q.set ((f k).less y n)) dcon (fun j => if j = k then (f k).less y n else f j) φ K := by
  obtain ⟨h1, h2, h3, -⟩ := T.same _ hx
  simp only at h1 h2 h3
  refine T.set hx (x.less y n) ((f k).less y n) rfl rfl ?_ ?_ ?_ rfl (.inl ⟨rfl, rfl⟩) (T.uc _ hx :) (T.lc _ hx :)
  · show (f k).pins - 1 = x.pins - 1; rw [h1]
  · show ((f k).dirty || y) = (x.dirty || y); rw [h2]
  · show (if y then max (f k).lsn n else (f k).lsn) = if y then max x.lsn n else x.lsn; rw [h3]
theorem insH_perm (k : Int) (x : Hd) : ∀ l : List (Int × Hd), (insH k x l).Perm ((k, x) :: l)
  | [] => List.Perm.refl _
  | y :: r => by
    rw [insH]
    split
    · exact List.Perm.refl _
    · exact ((insH_perm k x r).cons y).trans (List.Perm.swap _ _ _)
theorem insH_rise {k : Int} {x : Hd} : ∀ {l : List (Int × Hd)}, (l.Pairwise fun p q => p.1 < q.1) → (∀ p ∈ l, p.1 ≠ k) → (insH k x l).Pairwise fun p q => p.1 < q.1
  | [], _, _ => List.pairwise_singleton _ _
  | y :: r, h, hk => by
    rw [List.pairwise_cons] at h
    rw [insH]
    split
    · rename_i hlt
      refine List.pairwise_cons.2 ⟨fun p hp => ?_, List.pairwise_cons.2 h⟩
      rcases List.mem_cons.1 hp with rfl | hp
      · exact hlt
      · have := h.1 p hp; show k < p.1; omega
    · rename_i hlt
      have hy := hk y (by simp)
      refine List.pairwise_cons.2 ⟨fun p hp => ?_, insH_rise h.2 fun p hp => hk p (by simp [hp])⟩
      rcases insH_mem.1 hp with rfl | hp
      · show y.1 < k; omega
      · exact h.1 p hp
theorem Twin.add (T : Twin P con Q dcon f φ K) {k : Nat} {g pg g2 pg2 : Nat} {c : PgM} (hno : ∀ p ∈ P.all, p.1 ≠ (k : Int)) (hK : ¬ K pg) (hφ : ∀ x, K x → φ x ≠ pg2) (cl : Nat) (hcl : ∀ p ∈ P.all, (f p.1).last < cl) (hcl2 : cl ≤ Q.clock) :
    Twin (Pl.add { P with reads := P.reads + 1 } k ⟨g, pg, 1, false, 0, P.clock + 1⟩) (fun x => if x = pg then c else con x) (({ Q with reads := Q.reads + 1 } : DPl).add ⟨k, g2, pg2, 1, false, 0, cl⟩) (fun x => if x = pg2 then c else dcon x)
      (fun j => if j = (k : Int) then ⟨k, g2, pg2, 1, false, 0, cl⟩ else f j) (fun x => if x = pg then pg2 else φ x) (fun x => K x ∨ x = pg) := by
  have hmem : ∀ p ∈ insH k (⟨g, pg, 1, false, 0, P.clock + 1⟩ : Hd) P.all, p = ((k : Int), (⟨g, pg, 1, false, 0, P.clock + 1⟩ : Hd)) ∨ (p ∈ P.all ∧ p.1 ≠ (k : Int)) := fun p hp => (insH_mem.1 hp).imp (fun h => h) fun h => ⟨h, hno p h⟩
  have hpgK : ∀ p ∈ P.all, p.2.pg ≠ pg := fun p hp e => hK (e ▸ T.held p hp)
  refine ⟨T.pages, T.room, T.mark, T.hits, by show Q.reads + 1 = P.reads + 1; rw [T.reads], T.wrote, ?_, insH_rise T.rise hno, fun p hp => ?_, fun p hp => ?_, fun p hp q hq => ?_, fun p hp q hq h => ?_, fun p hp => ?_, fun p hp => ?_, fun p hp => ?_, fun x hx => ?_⟩
  · show (Q.all ++ [_]).Perm ((insH _ _ P.all).map _)
    refine (List.perm_append_singleton _ _).trans (List.Perm.trans ?_ ((insH_perm _ _ _).map _).symm)
    rw [List.map_cons]
    simp only [if_true]
    refine List.Perm.cons _ (T.perm.trans (List.Perm.of_eq (List.map_congr_left fun p hp => ?_)))
    rw [if_neg (hno p hp)]
  · rcases hmem p hp with rfl | ⟨hp', hne⟩
    · simp
    · simp only [if_neg hne]; exact T.key p hp'
  · rcases hmem p hp with rfl | ⟨hp', hne⟩
    · simp
    · simp only [if_neg hne, if_neg (hpgK p hp')]; exact T.same p hp'
  · rcases hmem p hp with rfl | ⟨hp', hne⟩ <;> rcases hmem q hq with rfl | ⟨hq', hne'⟩
    · simp
    · simp only [if_true, if_neg hne']
      have := T.uc q hq'; have := hcl q hq'
      exact ⟨fun h => by omega, fun h => by omega⟩
    · simp only [if_true, if_neg hne]
      have := T.uc p hp'; have := hcl p hp'
      exact ⟨fun h => by omega, fun h => by omega⟩
    · simp only [if_neg hne, if_neg hne']; exact T.order p hp' q hq'
  · rcases hmem p hp with rfl | ⟨hp', hne⟩ <;> rcases hmem q hq with rfl | ⟨hq', hne'⟩
    · rfl
    · have := T.uc q hq'; simp only at h; omega
    · have := T.uc p hp'; simp only at h; omega
    · exact T.once p hp' q hq' h
  · rcases hmem p hp with rfl | ⟨hp', hne⟩
    · exact Nat.le_refl _
    · exact Nat.le_succ_of_le (T.uc p hp')
  · rcases hmem p hp with rfl | ⟨hp', hne⟩
    · simp only [if_true]; exact hcl2
    · simp only [if_neg hne]; exact T.lc p hp'
  · rcases hmem p hp with rfl | ⟨hp', hne⟩
    · exact .inr rfl
    · exact .inl (T.held p hp')
  · by_cases hxp : x = pg
    · simp [hxp]
    · have hKx := hx.resolve_right hxp
      simp only [if_neg hxp, if_neg (hφ x hKx)]
      exact T.con x hKx
theorem Twin.insert (T : Twin P con Q dcon f φ K) {pg : Nat} (_hpg : K pg) (hinj : ∀ x, K x → φ x = φ pg → x = pg) (c : PgM) : Twin P (fun x => if x = pg then c else con x) Q (fun x => if x = φ pg then c else dcon x) f φ K :=
  ⟨T.pages, T.room, T.mark, T.hits, T.reads, T.wrote, T.perm, T.rise, T.key, T.same, T.order, T.once, T.uc, T.lc, T.held, fun x hx => by
    by_cases hxp : x = pg
    · simp [hxp]
    · rw [if_neg hxp, if_neg (fun e => hxp (hinj x hx e))]; exact T.con x hx⟩
end
theorem rising_on {α : Type} (g : α → Int) : ∀ (l l' : List α), (l.Pairwise fun a b => g a < g b) → (l'.Pairwise fun a b => g a < g b) → (∀ x, x ∈ l ↔ x ∈ l') → l = l'
  | [], [], _, _, _ => rfl
  | [], b :: r', _, _, h => absurd ((h b).2 (by simp)) (by simp)
  | a :: r, [], _, _, h => absurd ((h a).1 (by simp)) (by simp)
  | a :: r, b :: r', h1, h2, h => by
    rw [List.pairwise_cons] at h1 h2
    have hab : a = b := by
      rcases List.mem_cons.1 ((h a).1 (by simp)) with e | e
      · exact e
      · rcases List.mem_cons.1 ((h b).2 (by simp)) with e' | e'
        · exact e'.symm
        · have := h2.1 a e; have := h1.1 b e'; omega
    subst hab
    rw [rising_on g r r' h1.2 h2.2 fun x => ⟨fun hx => ?_, fun hx => ?_⟩]
    · rcases List.mem_cons.1 ((h x).1 (by simp [hx])) with e | e
      · rw [e] at hx; have := h1.1 a hx; omega
      · exact e
    · rcases List.mem_cons.1 ((h x).2 (by simp [hx])) with e | e
      · rw [e] at hx; have := h2.1 a hx; omega
      · exact e
theorem DPl.ripeTo_rise (Q : DPl) : ∀ j, (Q.ripeTo j).Pairwise fun x y => (x.n : Int) < (y.n : Int)
  | 0 => List.Pairwise.nil
  | j + 1 => by
    rw [DPl.ripeTo]
    refine List.pairwise_append.2 ⟨DPl.ripeTo_rise Q j, ?_, fun x hx y hy => ?_⟩
    · split
      · split
        · exact List.pairwise_singleton _ _
        · exact List.Pairwise.nil
      · exact List.Pairwise.nil
    · have h1 := (DPl.ripeTo_mem Q j x hx).2.2
      split at hy
      · rename_i z hz
        split at hy
        · rw [List.mem_singleton] at hy
          subst hy
          have := (DPl.find_mem hz).2
          omega
        · cases hy
      · cases hy
theorem DPl.ripeTo_has (Q : DPl) {x : DHd} (hf : Q.find (x.n : Nat) = some x) (hr : x.ripe Q.mark = true) : ∀ j, x.n < j → x ∈ Q.ripeTo j
  | 0, h => absurd h (Nat.not_lt_zero _)
  | j + 1, h => by
    rw [DPl.ripeTo]
    by_cases e : x.n = j
    · refine List.mem_append.2 (.inr ?_)
      rw [← e, hf]
      simp [hr]
    · exact List.mem_append.2 (.inl (DPl.ripeTo_has Q hf hr j (by omega)))
section
variable {P : Pl} {con : Nat → PgM} {Q : DPl} {dcon : Nat → PgM} {f : Int → DHd} {φ : Nat → Nat} {K : Nat → Prop}
theorem Twin.ripe (T : Twin P con Q dcon f φ K) (hk : ∀ p ∈ P.all, 0 ≤ p.1 ∧ p.1 < (P.pages : Int)) : Q.ripeTo Q.pages = P.ripe.map fun p => f p.1 := by
  refine rising_on (fun y : DHd => (y.n : Int)) _ _ (DPl.ripeTo_rise Q _) ?_ fun y => ⟨fun h => ?_, fun h => ?_⟩
  · refine List.pairwise_map.2 ?_
    have h : P.ripe.Pairwise fun p q => p ∈ P.all ∧ q ∈ P.all ∧ p.1 < q.1 := by
      have : P.all.Pairwise fun p q => p ∈ P.all ∧ q ∈ P.all ∧ p.1 < q.1 := by
        refine List.Pairwise.imp_of_mem (fun {a b} ha hb h => ?_) T.rise
        exact ⟨ha, hb, h⟩
      exact (this.filter _).filter _
    refine h.imp fun {p q} h => ?_
    have h1 := T.key p h.1
    have h2 := T.key q h.2.1
    show ((f p.1).n : Int) < ((f q.1).n : Int)
    have := h.2.2
    omega
  · obtain ⟨h1, h2, -⟩ := DPl.ripeTo_mem Q _ y h
    obtain ⟨p, hp, rfl⟩ := T.mem.1 h1
    refine List.mem_map.2 ⟨p, Pl.ripe_mem.2 ⟨hp, ?_⟩, rfl⟩
    obtain ⟨-, s2, s3, -⟩ := T.same p hp
    unfold DHd.ripe at h2
    rw [Bool.and_eq_true, decide_eq_true_eq, s2, s3, T.mark] at h2
    exact h2
  · obtain ⟨p, hp, rfl⟩ := List.mem_map.1 h
    obtain ⟨hp, h1, h2⟩ := Pl.ripe_mem.1 hp
    obtain ⟨-, s2, s3, -⟩ := T.same p hp
    have hkey := T.key p hp
    have hkk := hk p hp
    refine DPl.ripeTo_has Q ?_ ?_ _ ?_
    · show Q.find ((f p.1).n : Int) = _
      rw [hkey]
      exact T.find (k := p.1) (x := p.2) hp
    · unfold DHd.ripe
      rw [Bool.and_eq_true, decide_eq_true_eq, s2, s3, T.mark]
      exact ⟨h1, h2⟩
    · rw [T.pages]; omega
theorem Twin.pairs (T : Twin P con Q dcon f φ K) (hk : ∀ p ∈ P.all, 0 ≤ p.1) : DPl.pairs dcon (P.ripe.map fun p => f p.1) = prsOf con P.ripe := by
  unfold DPl.pairs prsOf
  rw [List.map_map]
  refine List.map_congr_left fun p hp => ?_
  have hp := (Pl.ripe_mem.1 hp).1
  have h1 := T.key p hp
  have h2 := hk p hp
  show ((f p.1).n, dcon (f p.1).pg) = _
  rw [T.page hp, show (f p.1).n = p.1.toNat from by omega]
theorem Twin.cleaned (f : Int → DHd) : ∀ (l : List (Int × Hd)) {P : Pl} {Q : DPl} {f' : Int → DHd}, Twin P con Q dcon f' φ K → (∀ p ∈ l, p ∈ P.all) → (l.Pairwise fun p q => p.1 ≠ q.1) → (∀ p ∈ l, f' p.1 = f p.1) →
    ∃ f'', Twin (Pl.cleaned l P) con (Q.cleaned (l.map fun p => f p.1)) dcon f'' φ K
  | [], P, Q, f', T, _, _, _ => ⟨f', T⟩
  | x :: r, P, Q, f', T, hm, hne, hf => by
    obtain ⟨k, x⟩ := x
    rw [List.pairwise_cons] at hne
    have hx := hm (k, x) (by simp)
    have hfx := hf (k, x) (by simp)
    obtain ⟨s1, s2, s3, s4⟩ := T.same _ hx
    simp only at hfx s1 s2 s3 s4
    have T1 := T.set hx { x with dirty := false } { f' k with dirty := false } rfl rfl s1 rfl s3 rfl (.inl ⟨rfl, rfl⟩) (T.uc _ hx :) (T.lc _ hx :)
    have T2 : Twin (P.cleanStep (k, x)) con (Q.cleanStep (f k)) dcon (fun j => if j = k then { f' k with dirty := false } else f' j) φ K := by
      rw [← hfx]
      exact T1.turn rfl rfl T.pages T.room T.mark T.hits T.reads (by show Q.wrote + 1 = P.wrote + 1; rw [T.wrote]) (Nat.le_refl _) (Nat.le_refl _)
    refine Twin.cleaned f r T2 (fun p hp => ?_) hne.2 (fun p hp => ?_)
    · exact Pl.mem_set_other (hm p (by simp [hp])) fun e => hne.1 p hp e.symm
    · simp only [if_neg (show ¬ p.1 = k from fun e => hne.1 p hp e.symm)]
      exact hf p (by simp [hp])
theorem Twin.flush (T : Twin P con Q dcon f φ K) (hk : ∀ p ∈ P.all, 0 ≤ p.1 ∧ p.1 < (P.pages : Int)) (d : Dsk) (hc : (d.wrL (prsOf con P.ripe)).2 = 0 ∨ (d.wrL (prsOf con P.ripe)).2 = 9) :
    (DPl.flushA Q dcon d).1 = (P.flushA con d).1 ∧ (DPl.flushA Q dcon d).2.2 = (P.flushA con d).2.2 ∧ ∃ f', Twin (P.flushA con d).2.1 con (DPl.flushA Q dcon d).2.1 dcon f' φ K := by
  have hr := T.ripe hk
  have hp := T.pairs fun p hp => (hk p hp).1
  unfold DPl.flushA Pl.flushA
  rw [hr, hp]
  by_cases h0 : P.ripe = []
  · rw [if_pos h0, if_pos (by rw [h0]; rfl)]
    exact ⟨rfl, rfl, f, T⟩
  · rw [if_neg h0, if_neg (by simpa using h0)]
    have hsy : (d.wrL (prsOf con P.ripe)).1.sync.2 = 0 ∨ (d.wrL (prsOf con P.ripe)).1.sync.2 = 9 := Dsk.sync_code _
    by_cases h1 : (d.wrL (prsOf con P.ripe)).2 ≠ 0
    · rw [if_pos h1, if_pos h1]
      exact ⟨rfl, by rcases hc with h | h; exact absurd h h1; exact h.symm, f, T⟩
    · rw [if_neg h1, if_neg h1]
      by_cases h2 : (d.wrL (prsOf con P.ripe)).1.sync.2 ≠ 0
      · rw [if_pos h2, if_pos h2]
        exact ⟨rfl, by rcases hsy with h | h; exact absurd h h2; exact h.symm, f, T⟩
      · rw [if_neg h2, if_neg h2]
        refine ⟨rfl, rfl, Twin.cleaned f P.ripe T (fun p hp => (Pl.ripe_mem.1 hp).1) ?_ fun _ _ => rfl⟩
        exact ((T.rise.filter _).filter _).imp fun {p q} h => by omega
end
end Go.Proofs.YthppgchmamonnaaGreatDoor
