/- The log: add, ahead of the walk. -/
import Derived.Test.YtcclbaphdblcfaaDoorPgWal14
namespace Go.Proofs.YtcclbaphdblcfaaDoor
open Go.RowKit

/-- what a change of the log leaves -/
structure Stood (d d' : Dsk) (L L' : Wal.Lg) : Prop where
  live : Wal.Live d'
  calm : d'.order = []
  len : d'.now.length = d.now.length
  ops : d'.ops ≤ d.ops + 20000
  on : Wal.On d'.now L'
  other : ∀ i, i < L.frm ∨ L.frm + 1 + 2 * L.half ≤ i → d'.now.getD i [] = d.now.getD i []
/-- behind a change that went through -/
def RetLog (w : World) (b bd : Nat) (d : Dsk) (F R : Nat → Prop) (L L' : Wal.Lg) (en : Ending) (w' : World) : Prop :=
  en = .returned .nilIface ∧ ∃ d' F' R', DiskAt w' bd d' F' ∧ Grows F w.heap.size F' ∧ Kept (Por F (Just b)) w w' ∧ Stood d d' L L' ∧ LogAt w' b bd L' R' ∧ Grows R w.heap.size R' ∧ Disj R' F' ∧ ¬ F' b

theorem Wal.markPut_length (now : List (List Value)) (L : Wal.Lg) : (Wal.markPut now L).length = now.length := by simp [Wal.markPut]
theorem Wal.markPut_other {now : List (List Value)} {L : Wal.Lg} {i : Nat} (h : i ≠ L.frm) : (Wal.markPut now L).getD i [] = now.getD i [] := by
  rw [Wal.markPut, List.getD_eq_getElem?_getD, List.getElem?_set_ne (by omega), ← List.getD_eq_getElem?_getD]
theorem Wal.grow_frm (L : Wal.Lg) (rs : List (List Value)) : (L.grow rs).frm = L.frm := by unfold Wal.Lg.grow; split <;> rfl
theorem Wal.grow_half (L : Wal.Lg) (rs : List (List Value)) : (L.grow rs).half = L.half := by unfold Wal.Lg.grow; split <;> rfl
theorem Wal.grow_first (L : Wal.Lg) (rs : List (List Value)) : (L.grow rs).first = L.first := by unfold Wal.Lg.grow; split <;> rfl
theorem Wal.grow_recs (L : Wal.Lg) (rs : List (List Value)) : (L.grow rs).recs = L.recs ++ rs := by unfold Wal.Lg.grow; split <;> rfl

/-- which way an add takes -/
def AddWay (L : Wal.Lg) (rs : List (List Value)) (hf at_ : Nat) (bs : List Value) : Prop :=
  (L.behind rs = true ∧ hf = L.hf ∧ at_ = L.size ∧ bs = Wal.pack rs) ∨ (L.behind rs = false ∧ hf = 1 - L.hf ∧ at_ = 0 ∧ bs = Wal.pack (L.recs ++ rs))
theorem AddWay.on {d d1 : Dsk} {L : Wal.Lg} {rs : List (List Value)} {hf at_ : Nat} {bs : List Value} (hw : AddWay L rs hf at_ bs) (hOn : Wal.On d.now L) (hrs : ∀ r ∈ rs, Wal.Rec r) (hsm : L.first + L.recs.length + rs.length ≤ 1000000000) (hmay : L.may rs = true)
    (h : Wrote d d1 (L.start hf) L.half at_ bs) : Wal.On (Wal.markPut d1.now (L.grow rs)) (L.grow rs) := by
  refine hOn.grow hrs hsm hmay d1.now h.len (fun hb => ?_) (fun hb => ?_)
  · rcases hw with ⟨_, rfl, rfl, rfl⟩ | ⟨hf', _⟩
    · have := h.flat
      rwa [Wal.pack_length] at this
    · rw [hb] at hf'; cases hf'
  · rcases hw with ⟨hf', _⟩ | ⟨_, rfl, rfl, rfl⟩
    · rw [hb] at hf'; cases hf'
    · have := h.flat
      rw [Wal.pack_length] at this
      simpa using this
theorem AddWay.place {L : Wal.Lg} {rs : List (List Value)} {hf at_ : Nat} {bs : List Value} (hw : AddWay L rs hf at_ bs) : (L.grow rs).hf = hf ∧ (L.grow rs).size = at_ + bs.length ∧ (L.grow rs).base = (if L.behind rs = true then L.base else L.first) := by
  rcases hw with ⟨hb, rfl, rfl, rfl⟩ | ⟨hb, rfl, rfl, rfl⟩
  · simp [Wal.Lg.grow, hb, Wal.pack_length]
  · simp [Wal.Lg.grow, hb, Wal.pack_length]
theorem AddWay.stood {d d1 d2 : Dsk} {L : Wal.Lg} {rs : List (List Value)} {hf at_ : Nat} {bs : List Value} (hw : AddWay L rs hf at_ bs) (hOn : Wal.On d.now L) (hrs : ∀ r ∈ rs, Wal.Rec r) (hsm : L.first + L.recs.length + rs.length ≤ 1000000000) (hmay : L.may rs = true)
    (h : Wrote d d1 (L.start hf) L.half at_ bs) (hf1 : hf ≤ 1) (h2 : Wal.Live d2) (h3 : d2.order = []) (h4 : d2.now = Wal.markPut d1.now (L.grow rs)) (h5 : d2.ops ≤ d1.ops + 10) : Stood d d2 L (L.grow rs) := by
  refine ⟨h2, h3, by rw [h4, Wal.markPut_length, h.len], by have := h.ops; omega, by rw [h4]; exact hw.on hOn hrs hsm hmay h, fun i hi => ?_⟩
  have hh : hf * L.half ≤ L.half := by
    have := Nat.mul_le_mul_right L.half hf1
    omega
  rw [h4, Wal.markPut_other (by rw [Wal.grow_frm]; omega)]
  exact h.other i (by simp only [Wal.Lg.start]; omega)
theorem cell_set4 (w : World) {p b i : Nat} {v0 v1 v2 v3 x : Value} (h : w.cell? ⟨b, i, none⟩ = some x) (hne : b ≠ p) : ((((w.setCell ⟨p, 0, none⟩ v0).setCell ⟨p, 1, none⟩ v1).setCell ⟨p, 2, none⟩ v2).setCell ⟨p, 3, none⟩ v3).cell? ⟨b, i, none⟩ = some x := by
  have k : Kept (Just p) w ((((w.setCell ⟨p, 0, none⟩ v0).setCell ⟨p, 1, none⟩ v1).setCell ⟨p, 2, none⟩ v2).setCell ⟨p, 3, none⟩ v3) := (((kept1 w p 0 v0).trans' (kept1 _ p 1 v1)).trans' (kept1 _ p 2 v2)).trans' (kept1 _ p 3 v3)
  exact (k.cell (cell_lt h) (show ¬ b = p from hne)).trans h
theorem heap4 (w : World) (p : Nat) (a0 a1 a2 a3 v0 v1 v2 v3 : Value) (e : TypeId) (h : w.heap[p]? = some (.cells #[a0, a1, a2, a3] e (0, 0))) :
    ((((w.setCell ⟨p, 0, none⟩ v0).setCell ⟨p, 1, none⟩ v1).setCell ⟨p, 2, none⟩ v2).setCell ⟨p, 3, none⟩ v3).heap[p]? = some (.cells #[v0, v1, v2, v3] e (0, 0)) := by
  have h0 : (w.setCell ⟨p, 0, none⟩ v0).heap[p]? = some (.cells #[v0, a1, a2, a3] e (0, 0)) := heap_set w p 0 _ e v0 h
  have h1 : ((w.setCell ⟨p, 0, none⟩ v0).setCell ⟨p, 1, none⟩ v1).heap[p]? = some (.cells #[v0, v1, a2, a3] e (0, 0)) := heap_set _ p 1 _ e v1 h0
  have h2 : (((w.setCell ⟨p, 0, none⟩ v0).setCell ⟨p, 1, none⟩ v1).setCell ⟨p, 2, none⟩ v2).heap[p]? = some (.cells #[v0, v1, v2, a3] e (0, 0)) := heap_set _ p 2 _ e v2 h1
  exact heap_set _ p 3 _ e v3 h2
theorem kept4 (w : World) (p : Nat) (v0 v1 v2 v3 : Value) : Kept (Just p) w ((((w.setCell ⟨p, 0, none⟩ v0).setCell ⟨p, 1, none⟩ v1).setCell ⟨p, 2, none⟩ v2).setCell ⟨p, 3, none⟩ v3) := (((kept1 w p 0 v0).trans' (kept1 _ p 1 v1)).trans' (kept1 _ p 2 v2)).trans' (kept1 _ p 3 v3)

/-- write, from any byte on -/
theorem log_write_at (w : World) (b bd frm half : Nat) (d : Dsk) (F : Nat → Prop) (h : LogHead w b bd frm half) (hD : DiskAt w bd d F) (hbF : ¬ F b) (hl : Wal.Live d) (hops : d.ops ≤ 1000000000000) (hf at_ : Nat) (h1 : hf ≤ 1)
    (v : Value) (bs : List Value) (G : Nat → Prop) (hv : Reads w v bs G) (hbs : ∀ u ∈ bs, IsByte u) (h5 : frm + 1 + 2 * half ≤ d.good.length) (hat : at_ + bs.length ≤ 64 * half) :
    Calls Tryd.prog 52 #[.pointer (some ⟨b, 0, none⟩), .int .i64 hf, .int .i64 at_, v] w (RetWrote w bd F fun d' => Wrote d d' (frm + 1 + hf * half) half at_ bs) := by
  have := log_write w b bd frm half d F h hD hbF hl hops hf (at_ / 64) (at_ % 64) h1 (by omega) v bs G hv hbs h5 (by omega)
  rw [show 64 * ((at_ / 64 : Nat) : Int) + ((at_ % 64 : Nat) : Int) = (at_ : Int) from by omega, show 64 * (at_ / 64) + at_ % 64 = at_ from by omega] at this
  exact this

/-- tell, at the end of add -/
theorem add_tail (w w5 : World) (b bd n hf at_ : Nat) (bs : List Value) (L : Wal.Lg) (R G : Nat → Prop) (d d1 : Dsk) (F F1 : Nat → Prop) (hbl : b < w.heap.size) (h : LogAt w b bd L R) (hbF : ¬ F b) (hRF : Disj R F) (hGb : ¬ G b) (hGF : Disj G F) (hGu : Under G w.heap.size) (hNoF : Under F w.heap.size)
    (hOn : Wal.On d.now L) (rs : List (List Value)) (hrs : ∀ r ∈ rs, Wal.Rec r) (hsm : L.first + L.recs.length + rs.length ≤ 1000000000) (hmay : L.may rs = true) (hw : AddWay L rs hf at_ bs) (hf1 : hf ≤ 1) (hops : d.ops ≤ 1000000000000)
    (vs0 vs : List Value) (hvs0 : ReadRows w vs0 L.recs R) (hr : ReadRows w vs rs G)
    (hD5 : DiskAt w5 bd d1 F1) (hg5 : Grows F n F1) (hn : w.heap.size ≤ n) (hk5 : Kept F w w5) (hwr : Wrote d d1 (L.start hf) L.half at_ bs)
    (rv : Value) (hall : Reads w5 rv (vs0 ++ vs) (fun x => w.heap.size ≤ x ∧ x < n)) (hn5 : n ≤ w5.heap.size) :
    Calls Tryd.prog 40 #[.pointer (some ⟨b, 0, none⟩), .agg #[.int .i64 (L.grow rs).hf, .int .i64 (L.grow rs).base, .int .i64 (L.grow rs).first, .int .i64 (L.grow rs).size], rv] w5 (RetLog w b bd d F (Por R G) L (L.grow rs)) := by
  have hRu := h.under
  obtain ⟨hRb⟩ : ∃ _ : ¬ R b, True := ⟨by obtain ⟨_, _, _, q, _⟩ := h; exact q, trivial⟩
  have hF1 : ∀ x, x < n → F1 x → F x := fun x hx h => by
    rcases hg5 x h with q | q
    · exact q
    · omega
  have hF1b : ¬ F1 b := fun q => hbF (hF1 b (by omega) q)
  have hOn1 := hw.on hOn hrs hsm hmay hwr
  have hfit := hOn1.fits
  rw [Wal.markPut_length] at hfit
  have hrows : ReadRows w5 (vs0 ++ vs) (L.grow rs).recs (fun x => Por R G x ∨ (w.heap.size ≤ x ∧ x < n)) := by
    rw [Wal.grow_recs]
    exact ((hvs0.kept hk5 hRF).mono fun x _ q => .inl (.inl q)).append ((hr.kept hk5 hGF).mono fun x _ q => .inl (.inr q))
  have hRw : ∀ x, (Por R G x ∨ (w.heap.size ≤ x ∧ x < n)) → x < n := fun x hx => by
    rcases hx with (q | q) | q
    · have := hRu x q; omega
    · have := hGu x q; omega
    · exact q.2
  have hRF1 : ∀ x, (Por R G x ∨ (w.heap.size ≤ x ∧ x < n)) → ¬ F1 x := fun x q q1 => by
    have hF := hF1 x (hRw x q) q1
    rcases q with (q | q) | q
    · exact hRF x q hF
    · exact hGF x q hF
    · exact absurd (hNoF x hF) (by omega)
  refine (log_tell w5 b bd L (L.grow rs) R _ d1 F1 (h.kept hk5 hbF hRF) (Wal.grow_frm _ _) (Wal.grow_half _ _) hD5 hF1b hwr.live (by have := hwr.ops; omega) hfit rv (vs0 ++ vs) (hall.mono fun x _ q => .inr q) hrows (fun q => ?_) hRF1 (fun x q => by have := hRw x q; omega)).mono ?_
  · rcases q with (q | q) | q
    · exact hRb q
    · exact hGb q
    · omega
  · rintro e w6 ⟨rfl, d6, F6, hD6, hg6, hk6, hl6, ho6, hn6, hp6, hL6, hb6⟩
    refine ⟨rfl, d6, F6, _, hD6, fun x hx => ?_, (hk5.mono fun x _ h => .inl h).trans hk6 (fun x hx h => ?_), hw.stood hOn hrs hsm hmay hwr hf1 hl6 ho6 hn6 hp6, hL6, fun x hx => ?_, fun x q q6 => ?_, hb6⟩
    · rcases hg6 x hx with q | q
      · rcases hg5 x q with q | q
        · exact .inl q
        · exact .inr (by omega)
      · exact .inr (by omega)
    · rcases h with q | q
      · exact .inl (hF1 x (by omega) q)
      · exact .inr q
    · rcases hx with q | q
      · exact .inl q
      · exact .inr q.1
    · rcases hg6 x q6 with q1 | q1
      · exact hRF1 x q q1
      · have := hRw x q; omega
end Go.Proofs.YtcclbaphdblcfaaDoor
