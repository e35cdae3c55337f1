/- DiskGood: the walk. -/
import Derived.Test.YthjjckpgjfjokaaPgDisk8
import Derived.Test.YthjjckpgjfjokaaPgAwake10
import Derived.Test.YthjjckpgjfjokaaPgGoodM
namespace Go.Proofs.Ythjjckpgjfjokaa
open Go.RowKit

/-- a disk and two rows of rows beside it, all new since w -/
def TwoRows (w : World) (inv : Dsk → List (List Value) → List (List Value) → Prop) (b : Nat) (wv nv : Value) (wr : World) : Prop :=
  ∃ d wl nl F Fr, inv d wl nl ∧ DiskAt wr b d F ∧ OwnRows wr 30 5 wv wl Fr ∧ OwnRows wr 30 5 nv nl Fr ∧ (∀ g, wv.ownBlock = some g → nv.ownBlock ≠ some g) ∧
    Disj F Fr ∧ (∀ k, F k → w.heap.size ≤ k) ∧ (∀ k, Fr k → w.heap.size ≤ k) ∧ Under Fr wr.heap.size ∧ Kept Nob w wr

/-- the first loop's round: both rows get the new one -/
theorem TwoRows.grow {w wr w1 w2 w3 w4 : World} {inv' : Dsk → List (List Value) → List (List Value) → Prop} {b : Nat} {wv nv : Value} {ws ns : List Value} {d' : Dsk} {wl nl : List (List Value)} {F Fr F2 : Nat → Prop} {x : List Value} {u : Value}
    (hD : Under F wr.heap.size) (hw1 : Own wr 30 wv ws Fr) (hw2 : RowsAt wr 5 ws wl Fr) (hn1 : Own wr 30 nv ns Fr) (hn2 : RowsAt wr 5 ns nl Fr) (hne : ∀ g, wv.ownBlock = some g → nv.ownBlock ≠ some g)
    (hdj : Disj F Fr) (hF : ∀ k, F k → w.heap.size ≤ k) (hFr : ∀ k, Fr k → w.heap.size ≤ k) (hU : Under Fr wr.heap.size) (hk : Kept Nob w wr)
    (hk1 : Kept Nob wr w1) (hu : Own w1 5 u x (From wr.heap.size)) (hD2 : DiskAt w2 b d' F2) (hg2 : Grows F w1.heap.size F2) (hk2 : Kept F w1 w2) :
    (Own (w2.alloc (.cells #[u] 30)) 30 wv ws Fr) ∧
    ∀ v3, Own w3 30 v3 (ws ++ [u]) (fun k => wv.ownBlock = some k ∨ (w2.alloc (.cells #[u] 30)).heap.size ≤ k) → Kept (fun k => wv.ownBlock = some k) (w2.alloc (.cells #[u] 30)) w3 →
      Own (w3.alloc (.cells #[u] 30)) 30 nv ns Fr ∧
      ∀ v4, Own w4 30 v4 (ns ++ [u]) (fun k => nv.ownBlock = some k ∨ (w3.alloc (.cells #[u] 30)).heap.size ≤ k) → Kept (fun k => nv.ownBlock = some k) (w3.alloc (.cells #[u] 30)) w4 →
        inv' d' (wl ++ [x]) (nl ++ [x]) → TwoRows w inv' b v3 v4 w4 := by
  have s0 := hk.size
  have s1 := hk1.size
  have s2 := hk2.size
  -- the new row's own place
  have hu' : Own w1 5 u x (fun k => wr.heap.size ≤ k ∧ k < w1.heap.size) := hu.mono fun k hk h => ⟨h, hk⟩
  have ka : Kept Nob w2 (w2.alloc (.cells #[u] 30)) := Kept.alloc _ _ _
  have kF : Kept F w1 (w2.alloc (.cells #[u] 30)) := hk2.then ka
  have dF : ∀ k, Fr k → ¬ F k := fun k h1 h2 => hdj k h2 h1
  have dG : ∀ k, (wr.heap.size ≤ k ∧ k < w1.heap.size) → ¬ F k := fun k h1 h2 => by have := hD k h2; omega
  have a1 : Own (w2.alloc (.cells #[u] 30)) 30 wv ws Fr := (hw1.kept hk1 (fun _ _ f => f)).kept kF dF
  have a2 : RowsAt (w2.alloc (.cells #[u] 30)) 5 ws wl Fr := (hw2.kept hk1 (fun _ _ f => f)).kept kF dF
  have a3 : Own (w2.alloc (.cells #[u] 30)) 30 nv ns Fr := (hn1.kept hk1 (fun _ _ f => f)).kept kF dF
  have a4 : RowsAt (w2.alloc (.cells #[u] 30)) 5 ns nl Fr := (hn2.kept hk1 (fun _ _ f => f)).kept kF dF
  have a5 := hu'.kept kF dG
  have a6 : DiskAt (w2.alloc (.cells #[u] 30)) b d' F2 := hD2.kept ka (fun _ _ f => f)
  have dFG : Disj Fr (fun k => wr.heap.size ≤ k ∧ k < w1.heap.size) := fun k h1 h2 => by have := hU k h1; omega
  have hz : (w2.alloc (.cells #[u] 30)).heap.size = w2.heap.size + 1 := by simp
  have dF2 : Disj F2 Fr := hdj.grows hg2 (hU.mono s1)
  have dG2 : Disj F2 (fun k => wr.heap.size ≤ k ∧ k < w1.heap.size) := fun k h1 h2 => by
    rcases hg2 k h1 with h | h
    · have := hD k h; omega
    · omega
  refine ⟨a1, fun v3 o3 k3 => ?_⟩
  obtain ⟨b1, b2⟩ := OwnRows.snoc (by decide) a1 a2 dFG a5 o3 k3
  have kb : Kept Nob w3 (w3.alloc (.cells #[u] 30)) := Kept.alloc _ _ _
  have k3' := k3.then kb
  -- the other row stays
  have hno : ∀ j, wv.ownBlock = some j → nv.ownBlock ≠ some j := hne
  have a3' : Own w3 30 nv ns Fr := a3.keptT k3 hno
  have a4' : RowsAt w3 5 ns nl Fr := ⟨a4.len, fun i u y p q => (a4.own i u y p q).keptT k3 fun j hj => by
    obtain ⟨cur, hc⟩ := a1.blockIs hj
    exact (a4.own i u y p q).not_in hc (by decide), a4.apart⟩
  have a6' : DiskAt w3 b d' F2 := a6.kept k3 (fun k h1 h2 => dF2 k h1 (hw1.2 k h2))
  have e3 := a3'.kept kb (fun _ _ f => f)
  have e4 := a4'.kept kb (fun _ _ f => f)
  have e5 := b2.kept kb (fun _ _ f => f)
  have hz3 : (w3.alloc (.cells #[u] 30)).heap.size = w3.heap.size + 1 := by simp
  have s3 := k3.size
  rw [hz] at s3
  refine ⟨e3, fun v4 o4 k4 hinv => ?_⟩
  obtain ⟨c1, c2⟩ := OwnRows.snoc (by decide) e3 e4 dFG e5 o4 k4
  have s4 := k4.size
  rw [hz3] at s4
  obtain ⟨vs3, p1, p2⟩ := b1.kept kb (fun _ _ f => f)
  have hv3n : ∀ j, nv.ownBlock = some j → v3.ownBlock ≠ some j := fun j hj hv => by
    rcases o3.2 j hv with h | h
    · exact hne j h hj
    · have := hU j (hn1.2 j hj); rw [hz] at h; omega
  have q1 : OwnRows w4 30 5 v3 (wl ++ [x]) _ := ⟨vs3, p1.keptT k4 hv3n, p2.len, fun i u y a c => (p2.own i u y a c).keptT k4 fun j hj => by
    obtain ⟨cur, hc⟩ := e3.blockIs hj
    exact (p2.own i u y a c).not_in hc (by decide), p2.apart⟩
  rw [hz] at q1
  rw [hz3] at c1
  refine ⟨d', _, _, F2, (fun k => Fr k ∨ (wr.heap.size ≤ k ∧ k < w1.heap.size) ∨ (w2.heap.size + 1 ≤ k ∧ k < w4.heap.size)), hinv, ?_, q1.mono ?_, c1.mono ?_, ?_, ?_, ?_, ?_, ?_, ?_⟩
  · exact (a6'.kept kb (fun _ _ f => f)).kept k4 (fun k h1 h2 => dF2 k h1 (hn1.2 k h2))
  · intro k hk h
    rcases h with h | h | h
    · exact .inl h
    · exact .inr (.inl h)
    · exact .inr (.inr (by omega))
  · intro k hk h
    rcases h with h | h | h
    · exact .inl h
    · exact .inr (.inl h)
    · exact .inr (.inr (by omega))
  · intro g h1 h2
    rcases o4.2 g h2 with h | h
    · exact hv3n g h h1
    · rw [hz3] at h
      have h3 := (o3.blockLt h1)
      omega
  · intro k h1 h2
    have hD2lt := hD2.under k h1
    rcases h2 with h | h | h
    · exact dF2 k h1 h
    · exact dG2 k h1 h
    · omega
  · intro k h
    rcases hg2 k h with h | h
    · exact hF k h
    · omega
  · intro k h
    rcases h with h | h | h
    · exact hFr k h
    · omega
    · omega
  · intro k h
    rcases h with h | h | h
    · have := hU k h; omega
    · omega
    · exact h.2
  · have t1 : Kept (From w.heap.size) w1 w3 := (hk2.mono fun k _ h => hF k h).trans' ((ka.nob).trans' (k3.mono fun k _ h => hFr k (hw1.2 k h)))
    have t2 : Kept (From w.heap.size) w3 w4 := (kb.nob).trans' (k4.mono fun k _ h => hFr k (hn1.2 k h))
    exact (hk.then hk1).from (Nat.le_refl _) (t1.trans' t2)

/-- the second loop's round: one row of the second is turned -/
theorem TwoRows.turn {w wr w1 w2 : World} {inv' : Dsk → List (List Value) → List (List Value) → Prop} {b gn n cn : Nat} {wv : Value} {d' : Dsk} {wl nl : List (List Value)} {F Fr F2 : Nat → Prop} {x : List Value} {u : Value} (a : Nat) (ha : a < nl.length)
    (hD : Under F wr.heap.size) (hW : OwnRows wr 30 5 wv wl Fr) (hN : OwnRows wr 30 5 (.slice (some ⟨gn, 0, none⟩) n cn) nl Fr) (hne : ∀ g, wv.ownBlock = some g → (Value.slice (some ⟨gn, 0, none⟩) n cn).ownBlock ≠ some g)
    (hdj : Disj F Fr) (hF : ∀ k, F k → w.heap.size ≤ k) (hFr : ∀ k, Fr k → w.heap.size ≤ k) (hU : Under Fr wr.heap.size) (hk : Kept Nob w wr)
    (hk1 : Kept Nob wr w1) (hu : Own w1 5 u x (From wr.heap.size)) (hD2 : DiskAt w2 b d' F2) (hg2 : Grows F w1.heap.size F2) (hk2 : Kept F w1 w2) (hinv : inv' d' wl (nl.set a x)) :
    (∃ v, w2.cell? ⟨gn, a, none⟩ = some v) ∧ w2.frozen? ⟨gn, a, none⟩ = false ∧ TwoRows w inv' b wv (.slice (some ⟨gn, 0, none⟩) n cn) (w2.setCell ⟨gn, a, none⟩ u) := by
  have s0 := hk.size
  have s1 := hk1.size
  have s2 := hk2.size
  have hu' : Own w1 5 u x (fun k => wr.heap.size ≤ k ∧ k < w1.heap.size) := hu.mono fun k hk h => ⟨h, hk⟩
  have dF : ∀ k, Fr k → ¬ F k := fun k h1 h2 => hdj k h2 h1
  have dG : ∀ k, (wr.heap.size ≤ k ∧ k < w1.heap.size) → ¬ F k := fun k h1 h2 => by have := hD k h2; omega
  have a1 : OwnRows w2 30 5 wv wl Fr := (hW.kept hk1 (fun _ _ f => f)).kept hk2 dF
  have a2 : OwnRows w2 30 5 (.slice (some ⟨gn, 0, none⟩) n cn) nl Fr := (hN.kept hk1 (fun _ _ f => f)).kept hk2 dF
  have a5 := hu'.kept hk2 dG
  have dFG : Disj Fr (fun k => wr.heap.size ≤ k ∧ k < w1.heap.size) := fun k h1 h2 => by have := hU k h1; omega
  have dF2 : Disj F2 Fr := hdj.grows hg2 (hU.mono s1)
  have dG2 : Disj F2 (fun k => wr.heap.size ≤ k ∧ k < w1.heap.size) := fun k h1 h2 => by
    rcases hg2 k h1 with h | h
    · have := hD k h; omega
    · omega
  obtain ⟨v, v1, v2, _, _⟩ := a2.cell ha
  obtain ⟨c1, c2, c3⟩ := a2.put (by decide) dFG a5 a
  have hks := kept1 w2 gn a u
  have hgb : ∃ cur, w2.heap[gn]? = some (.cells cur 30 (0, 0)) := by
    obtain ⟨ns, p, _⟩ := a2
    exact p.blockIs rfl
  obtain ⟨cur, hcur⟩ := hgb
  have hsz : (w2.setCell ⟨gn, a, none⟩ u).heap.size = w2.heap.size := by simp [World.setCell]
  refine ⟨⟨v, v1⟩, v2, d', _, _, F2, (fun k => Fr k ∨ (wr.heap.size ≤ k ∧ k < w1.heap.size)), hinv, ?_, ?_, c1, hne, ?_, ?_, ?_, ?_, ?_⟩
  · exact hD2.kept hks (fun k h1 h2 => dF2 k h1 (by rw [show k = gn from h2]; exact c2))
  · obtain ⟨ws, p, q⟩ := a1
    refine ⟨ws, (p.keptT hks fun j hj => ?_).mono (fun k _ h => .inl h), q.len, fun i u' y e1 e2 => ((q.own i u' y e1 e2).keptT hks fun j hj => ?_).mono (fun k _ h => .inl h), q.apart⟩
    · rw [show j = gn from hj]; exact fun e => hne gn e rfl
    · rw [show j = gn from hj]; exact (q.own i u' y e1 e2).not_in hcur (by decide)
  · intro k h1 h2
    rcases h2 with h | h
    · exact dF2 k h1 h
    · exact dG2 k h1 h
  · intro k h
    rcases hg2 k h with h | h
    · exact hF k h
    · omega
  · intro k h
    rcases h with h | h
    · exact hFr k h
    · omega
  · intro k h
    rw [hsz]
    rcases h with h | h
    · have := hU k h; omega
    · omega
  · exact (hk.then hk1).from (Nat.le_refl _) ((hk2.mono fun k _ h => hF k h).trans' (hks.mono fun k _ h => by rw [show k = gn from h]; exact hFr gn c2))
/-- the disk alone goes on -/
theorem TwoRows.move {w wr w2 : World} {inv' : Dsk → List (List Value) → List (List Value) → Prop} {b : Nat} {wv nv : Value} {d' : Dsk} {wl nl : List (List Value)} {F Fr F2 : Nat → Prop}
    (hW : OwnRows wr 30 5 wv wl Fr) (hN : OwnRows wr 30 5 nv nl Fr) (hne : ∀ g, wv.ownBlock = some g → nv.ownBlock ≠ some g)
    (hdj : Disj F Fr) (hF : ∀ k, F k → w.heap.size ≤ k) (hFr : ∀ k, Fr k → w.heap.size ≤ k) (hU : Under Fr wr.heap.size) (hk : Kept Nob w wr)
    (hD2 : DiskAt w2 b d' F2) (hg2 : Grows F wr.heap.size F2) (hk2 : Kept F wr w2) (hinv : inv' d' wl nl) : TwoRows w inv' b wv nv w2 := by
  have s0 := hk.size
  have s2 := hk2.size
  have dF : ∀ k, Fr k → ¬ F k := fun k h1 h2 => hdj k h2 h1
  refine ⟨d', wl, nl, F2, Fr, hinv, hD2, hW.kept hk2 dF, hN.kept hk2 dF, hne, hdj.grows hg2 hU, fun k h => ?_, hFr, hU.mono s2, hk.from (Nat.le_refl _) (hk2.mono fun k _ h => hF k h)⟩
  rcases hg2 k h with h | h
  · exact hF k h
  · omega

theorem Reads.drop {w : World} {b o n c : Nat} {xs : List Value} {F : Nat → Prop} (h : Reads w (.slice (some ⟨b, o, none⟩) n c) xs F) (m : Nat) (hm : m < xs.length) : Reads w (.slice (some ⟨b, o + m, none⟩) (n - m) (c - m)) (xs.drop m) F := by
  have hn := h.len
  rcases h with ⟨hx, _⟩ | ⟨b', o', cap, hv, hl, hb, hF, hc⟩
  · simp [hx] at hm
  · simp only [Value.slice.injEq, Option.some.injEq, Addr.mk.injEq] at hv
    obtain ⟨⟨rfl, rfl, _⟩, _, rfl⟩ := hv
    refine .inr ⟨b, o + m, c - m, by rw [List.length_drop, hn], by rw [List.length_drop]; omega, hb, hF, fun i x hi => ?_⟩
    rw [List.getElem?_drop] at hi
    have := hc (m + i) x hi
    rwa [show o + (m + i) = o + m + i from by omega] at this
/-- a sector in a row of rows, as the walk wants it -/
theorem OwnRows.sector {w : World} {er e : TypeId} {g n cap : Nat} {xss : List (List Value)} {F : Nat → Prop} (h : OwnRows w er e (.slice (some ⟨g, 0, none⟩) n cap) xss F) {i : Nat} (hi : i < xss.length) (hx : (xss.getD i []).length = 64) :
    ∃ s c, w.cell? ⟨g, i, none⟩ = some (.slice (some ⟨s, 0, none⟩) 64 c) ∧ 64 ≤ c ∧ Reads w (.slice (some ⟨s, 0, none⟩) 64 c) (xss.getD i []) F ∧ g < w.heap.size := by
  obtain ⟨v, c1, _, c3, _⟩ := h.cell hi
  have e1 : xss[i] = xss.getD i [] := by rw [List.getD_eq_getElem?_getD, List.getElem?_eq_getElem hi]; rfl
  rw [e1] at c3
  rcases c3.shape with ⟨_, hz⟩ | ⟨s, c, cur, hv, _, _, hc, _⟩
  · rw [hz] at hx; simp at hx
  · rw [hx] at hv hc
    subst hv
    exact ⟨s, c, c1, hc, c3.reads, cell_lt (a := ⟨g, i, none⟩) c1⟩

theorem Kept.newrow {w w9 : World} {o : Obj} {n c : Nat} (h : Kept (fun k => (Value.slice (some ⟨w.heap.size, 0, none⟩) n c).ownBlock = some k) (w.alloc o).drew w9) : Kept Nob w w9 :=
  ((Kept.alloc Nob w o).trans' (Kept.drew Nob _)).from (Nat.le_refl _) (h.mono (fun x _ h => by
    simp only [Value.ownBlock, Option.some.injEq] at h
    rw [← h]
    exact Nat.le_refl _))
theorem Kept.newrow2 {w w9 w10 : World} {o : Obj} {n c : Nat} {e : TypeId} {v : Value} {xs : List Value} (h : Kept Nob w w9) (ho : Own w9 e v xs (fun k => (Value.slice (some ⟨w.heap.size, 0, none⟩) n c).ownBlock = some k ∨ (w.alloc o).drew.heap.size ≤ k))
    (hk : Kept (fun k => v.ownBlock = some k) w9 w10) : Kept Nob w w10 :=
  h.from (Nat.le_refl _) (hk.mono (fun x _ hx => by
    rcases ho.2 x hx with h1 | h1
    · simp only [Value.ownBlock, Option.some.injEq] at h1
      rw [← h1]; exact Nat.le_refl _
    · have h2 : (w.alloc o).drew.heap.size = w.heap.size + 1 := by simp
      rw [h2] at h1
      exact Nat.le_of_succ_le h1))
/-- behind j rounds of the first loop both rows are the same -/
def Both (n j : Nat) (d : Dsk) (wl nl : List (List Value)) : Prop := Gd.Inv1 n j d wl ∧ nl = wl
theorem Both.mk {n j : Nat} {d : Dsk} {wl : List (List Value)} (h : Gd.Inv1 n j d wl) : Both n j d wl wl := ⟨h, rfl⟩
/-- in the second loop -/
def Later (n j : Nat) (d : Dsk) (wl nl : List (List Value)) : Prop := Gd.Inv2 n j wl d nl

set_option maxRecDepth 100000 in
set_option maxHeartbeats 4000000 in
theorem good_main (w : World) (n : Nat) (h1 : 1 ≤ n) (h2 : n ≤ 20) (mv kv : Value) (more : List Int) (keep : List Bool) (G1 G2 : Nat → Prop) (hm : Reads w mv (more.map (Value.int .i64)) G1) (hk : Reads w kv (keep.map Value.bool) G2)
    (h3 : more.length ≤ 60) (h4 : keep.length ≤ 60) (torn : Int) :
    Calls Try.prog 5 #[.int .i64 n, mv, kv, .int .i64 torn] w (RetTrue w) := by
  obtain ⟨ma, mc, rfl, _⟩ := hm.shape
  obtain ⟨ka, kc, rfl, _⟩ := hk.shape
  have HM := Lib.hid hm
  have HKp := Lib.hid hk
  clear hm hk
  simp only [List.length_map] at HM HKp ⊢
  go_enter Try.func5, Try.ntmps5
  go_wp2_with fail
  refine (disk_new w n h1 (by omega)).mono ?_
  rintro e w1 ⟨b, rfl, hD1, hk1⟩
  have HR0 : Hid (TwoRows w (Both n 0) b (.slice none 0 0) (.slice none 0 0) w1) :=
    ⟨_, [], [], _, Nob, Both.mk (Gd.Inv1.start n), hD1, ⟨[], Own.nil _ _ _, RowsAt.nil _ _ _⟩, ⟨[], Own.nil _ _ _, RowsAt.nil _ _ _⟩, fun g h => by simp [Value.ownBlock] at h, fun _ _ f => f, fun k h => h.1, fun k h => h.elim, fun k h => h.elim, hk1⟩
  clear hD1 hk1
  go_wp2_with fail
  go_loopw [11, 12, 13] (fun wv nv i wr => ∃ j : Nat, j ≤ n ∧ i = .int .i64 j ∧ ∃ wb wc nb nc, wv = .slice wb j wc ∧ nv = .slice nb j nc ∧ TwoRows w (Both n j) b (.slice wb j wc) (.slice nb j nc) wr) (fun _ _ i _ => n - (intOf i).toNat)
  case atStart => exact ⟨0, Nat.zero_le _, rfl, none, 0, none, 0, rfl, rfl, HR0.out⟩
  case round =>
    clear HR0
    obtain ⟨j, hj, rfl, wb, wc, nb, nc, rfl, rfl, d, wl, nl, F, Fr, ⟨hinv, rfl⟩, hD, hW, hN, hne, hdj, hF, hFr, hU, hk⟩ := hrel
    by_cases hlt : j < n
    · obtain ⟨ws, hw1, hw2⟩ := hW
      obtain ⟨ns, hn1, hn2⟩ := hN
      have HI := Lib.hid hinv
      have HD := Lib.hid hD
      have HGR := fun w1 w2 w3 w4 F2 u q1 q2 q3 q4 q5 => Lib.hid (TwoRows.grow (w := w) (wr := wr) (w1 := w1) (w2 := w2) (w3 := w3) (w4 := w4) (F2 := F2) (u := u) (x := blockRow 64 j) (d' := d.begun.put j (blockRow 64 j)) (b := b) (inv' := Both n (j + 1)) hD.under hw1 hw2 hn1 hn2 hne hdj hF hFr hU hk q1 q2 q3 q4 q5)
      have HG := Lib.hid HGR
      have wsl : ws.length = j := by rw [hw2.len, hinv.wll]
      have nsl : ns.length = j := by rw [hn2.len, hinv.wll]
      have WSL := Lib.hid wsl
      have NSL := Lib.hid nsl
      clear hD hw1 hw2 hn1 hn2 hne hdj hF hFr hU hk HGR hinv wsl nsl
      go_wp2_with fail
      refine (block_any wr 64 (by omega) j).mono ?_
      rintro e w3 ⟨g3, rfl, ho3, hk3⟩
      have HO3 := Lib.hid ho3
      have HK3 := Lib.hid hk3
      clear ho3 hk3
      go_wp2_with fail
      refine (disk_write w3 b d F (HD.out.kept HK3.out (fun _ _ f => f)) j (by rw [HI.out.len]; exact hlt) _ (blockRow 64 j) _ HO3.out.reads ⟨blockRow_length _ _, blockRow_bytes _ _⟩ (fun k q1 q2 => by have := HD.out.under k q2; simp [From] at q1; omega) (by rw [HI.out.ops]; omega) HI.out.goes).mono ?_
      rintro e w4 ⟨rfl, F4, hD4, hg4, hk4⟩
      have HQ := fun w5 w6 => HG.out w3 w4 w5 w6 F4 _ HK3.out HO3.out hD4 hg4 hk4
      have HQ1 := Lib.hid HQ
      clear hD4 hg4 hk4 HQ HG
      go_wp2_with (at_builtin; first
        | (refine wpList_append1_pg rfl _ _ 29 rfl tRows (.slice wb j wc) ws (.slice (some ⟨g3, 0, none⟩) 64 64) Fr ⟨w4.heap.size, 0, none⟩ 1 rfl rfl (HQ1.out w4 w4).out.1 (by simp) rfl (Nat.le_refl _) rfl (by have := WSL.out; omega) ?_; intro g5 c5 w5 ho5 hk5; have HP5 := Lib.hid ((HQ1.out w5 w5).out.2 _ ho5 hk5); have HO5 := Lib.hid ho5; have HK5 := Lib.hid hk5; clear ho5 hk5)
        | (refine wpList_append1_pg rfl _ _ 29 rfl tRows (.slice nb j nc) ns (.slice (some ⟨g3, 0, none⟩) 64 64) Fr ⟨w5.heap.size, 0, none⟩ 1 rfl rfl HP5.out.1 (by simp) rfl (Nat.le_refl _) rfl (by have := NSL.out; omega) ?_; intro g6 c6 w6 ho6 hk6; have HP6 := Lib.hid (((HQ1.out w5 w6).out.2 _ HO5.out HK5.out).2 _ ho6 hk6 (Both.mk (HI.out.step hlt _))); clear ho6 hk6))
      rw [WSL.out, NSL.out] at HP6
      go_roundw
      case rel => exact ⟨j + 1, by omega, by go_num, _, _, _, _, by rw [WSL.out], by rw [NSL.out], HP6.out⟩
      case measure => simp [intOf]; omega
    · obtain rfl : n = j := by omega
      have HI := Lib.hid hinv
      have HD := Lib.hid hD
      have HGM := fun d' w2 F2 q1 q2 q3 q4 => Lib.hid (TwoRows.move (w := w) (wr := wr) (w2 := w2) (b := b) (d' := d') (F2 := F2) (inv' := Later n 0) hW hN hne hdj hF hFr hU hk q1 q2 q3 q4)
      have HG := Lib.hid HGM
      clear hinv hD hW hN hne hdj hF hFr hU hk HGM hlt
      go_wp2_with fail
      refine (disk_sync wr b d F HD.out (by rw [HI.out.ops]; omega) HI.out.goes).mono ?_
      rintro e w2 ⟨rfl, F2, hD2, hg2, hk2⟩
      have HR := Lib.hid (HG.out _ w2 F2 hD2 hg2 hk2 (HI.out.sync HD.out.wf)).out
      clear hD2 hg2 hk2 HG HI HD
      go_wp2_with fail
      obtain ⟨wo, rfl⟩ : ∃ wo : World, wo = wr := ⟨_, rfl⟩
      go_loopw [15] (fun i wr => ∃ j : Nat, j ≤ more.length ∧ i = .int .i64 j ∧ TwoRows w (Later n j) b (.slice wb n wc) (.slice nb n nc) wr) (fun i _ => more.length - (intOf i).toNat)
      case atStart => exact ⟨0, Nat.zero_le _, rfl, HR.out⟩
      case round =>
        clear HR
        obtain ⟨j, hj, rfl, d, wl, nl, F, Fr, hinv, hD, hW, hN, hne, hdj, hF, hFr, hU, hk⟩ := hrel
        have HI : Hid (Gd.Inv2 n j wl d nl) := hinv
        clear hinv
        obtain ⟨gn, rfl⟩ : ∃ gn, nb = some ⟨gn, 0, none⟩ := by
          obtain ⟨ns, p, q⟩ := hN
          rcases p.shape with ⟨hx, _⟩ | ⟨g, c', cur, hx, _⟩
          · simp at hx; omega
          · simp at hx; exact ⟨g, hx.1⟩
        by_cases hlt : j < more.length
        · obtain ⟨ba, oa, hea, ca⟩ : ∃ b o, ma = some ⟨b, o, none⟩ ∧ wr.cell? ⟨b, o + j, none⟩ = some (.int .i64 more[j]) := by
            rcases HM.out.kept hk (fun _ _ f => f) with ⟨hz, _⟩ | ⟨b', o', c', hx, _, _, _, hc⟩
            · simp at hz; simp [hz] at hlt
            · simp only [Value.slice.injEq] at hx
              exact ⟨b', o', hx.1, hc j _ (by simp [hlt])⟩
          subst hea
          have i1 : (j : Int) < (more.length : Int) := by omega
          have i0 : (0 : Int) ≤ (j : Int) := Int.natCast_nonneg _
          obtain ⟨a, ha, hal⟩ : ∃ a : Nat, more[j] % (n : Int) = a ∧ a < n := by
            have q1 := Int.emod_nonneg more[j] (show (n : Int) ≠ 0 by omega)
            have q2 := Int.emod_lt_of_pos more[j] (show (0 : Int) < n by omega)
            exact ⟨(more[j] % (n : Int)).toNat, by omega, by omega⟩
          have HRd := Lib.hid (round_any wr more[j] (n : Int) (by omega) (by omega))
          rw [ha] at HRd
          have a0 : (0 : Int) ≤ (a : Int) := Int.natCast_nonneg _
          have a1 : (a : Int) < (n : Int) := by omega
          have HD := Lib.hid hD
          have HTM := fun w1 w2 F2 u q1 q2 q3 q4 q5 => Lib.hid (TwoRows.turn (w := w) (wr := wr) (w1 := w1) (w2 := w2) (b := b) (u := u) (x := blockRow 64 (100 + j)) (d' := d.begun.put a (blockRow 64 (100 + j))) (F2 := F2) (inv' := Later n (j + 1)) a (by rw [HI.out.nowl]; exact hal) hD.under hW hN hne hdj hF hFr hU hk q1 q2 q3 q4 q5 (HI.out.step a _))
          have HT := Lib.hid HTM
          clear hD hW hN hne hdj hF hFr hU hk HTM ha
          generalize more[j] = aj at *
          go_wp2_with (go_at_call 11; refine HRd.out.mono ?_; rintro e w' ⟨rfl, rfl⟩)
          refine (block_any wr 64 (by omega) (100 + j)).mono ?_
          rintro e w3 ⟨g3, rfl, ho3, hk3⟩
          have HO3 := Lib.hid ho3
          have HK3 := Lib.hid hk3
          clear ho3 hk3
          go_wp2_with fail
          refine (disk_write w3 b d F (HD.out.kept HK3.out (fun _ _ f => f)) a (by rw [HI.out.good, HI.out.wl]; exact hal) _ (blockRow 64 (100 + j)) _ HO3.out.reads ⟨blockRow_length _ _, blockRow_bytes _ _⟩ (fun k q1 q2 => by have := HD.out.under k q2; simp [From] at q1; omega) (by rw [HI.out.ops]; omega) HI.out.goes).mono ?_
          rintro e w4 ⟨rfl, F4, hD4, hg4, hk4⟩
          obtain ⟨⟨vv, cv⟩, fv, hnext⟩ := (HT.out w3 w4 F4 _ HK3.out HO3.out hD4 hg4 hk4).out
          have HN := Lib.hid hnext
          clear hD4 hg4 hk4 hnext HT
          go_wp2_with fail
          go_roundw
          case rel => exact ⟨j + 1, by omega, by go_num, HN.out⟩
          case measure => simp [intOf]; omega
        · obtain rfl : more.length = j := by omega
          obtain ⟨gw, rfl⟩ : ∃ gw, wb = some ⟨gw, 0, none⟩ := by
            obtain ⟨ws, p, q⟩ := hW
            rcases p.shape with ⟨hx, _⟩ | ⟨g, c', cur, hx, _⟩
            · simp at hx; omega
            · simp at hx; exact ⟨g, hx.1⟩
          have HD := Lib.hid hD
          have HW := Lib.hid hW
          have HN := Lib.hid hN
          have HK := Lib.hid hk
          clear hD hW hN hne hdj hF hFr hU hk hlt hj
          go_wp2_with fail
          refine (disk_crash wr b d F HD.out _ keep _ (HKp.out.kept HK.out (fun _ _ f => f)) (by omega) torn).mono ?_
          rintro e w7 ⟨bx, rfl, hDx, hkx⟩
          have HDx := Lib.hid hDx
          have HW7 := Lib.hid (HW.out.kept hkx (fun _ _ f => f))
          have HN7 := Lib.hid (HN.out.kept hkx (fun _ _ f => f))
          have HK7 := Lib.hid (HK.out.then hkx)
          have hcs : ∀ i, i < n → (d.crash keep torn).now.getD i [] = wl.getD i [] ∨ ((keep ≠ [] ∨ 0 ≤ torn) ∧ (d.crash keep torn).now.getD i [] = nl.getD i []) ∨ (Gd.Torn d torn i ∧ (d.crash keep torn).now.getD i [] = (nl.getD i []).take 32 ++ (wl.getD i []).drop 32) := fun i hi => by
            have := Gd.crash_sector HD.out.wf keep torn (i := i) (by rw [HI.out.good, HI.out.wl]; exact hi)
            rw [HI.out.good, HI.out.now] at this
            rcases this with h | h | h
            · exact .inl h
            · exact .inr (.inl h)
            · exact .inr (.inr ⟨h.1, by rw [h.2, Gd.half]⟩)
          have HCS := Lib.hid hcs
          have hgl : (d.crash keep torn).good.length = n := by show (Dsk.bites _ _ _ _ _ _).length = n; rw [Dsk.bites_length, HI.out.good, HI.out.wl]
          have HGL := Lib.hid hgl
          have hws : Dsk.Sectors wl := by have := HD.out.wf.good; rw [HI.out.good] at this; exact this
          have hns : Dsk.Sectors nl := by have := HD.out.wf.now; rw [HI.out.now] at this; exact this
          have HWS := Lib.hid hws
          have HNS := Lib.hid hns
          have WL := Lib.hid HI.out.wl
          have NL := Lib.hid HI.out.nowl
          clear hDx hkx hcs hgl hws hns HD HW HN HK HI HM
          generalize d.crash keep torn = dx at *
          go_wp2_with fail
          obtain ⟨w2o, rfl⟩ : ∃ w2o : World, w2o = wr := ⟨_, rfl⟩
          go_loopw [19, 20] (fun c i wr => ∃ j k : Nat, j ≤ n ∧ i = .int .i64 j ∧ c = .int .i64 k ∧ k ≤ 1 ∧ (k = 1 → ∃ t, t < j ∧ Gd.Torn d torn t) ∧ Kept Nob w7 wr) (fun _ i _ => n - (intOf i).toNat)
          case atStart => exact ⟨0, 0, Nat.zero_le _, rfl, rfl, by omega, fun h => by omega, Kept.refl _ _⟩
          case round =>
            obtain ⟨j, k, hj, rfl, rfl, hk1, hkt, hk⟩ := hrel
            have HKT := Lib.hid hkt
            have HK := Lib.hid hk
            clear hkt hk
            by_cases hlt : j < n
            · go_wp2_with fail
              refine (disk_read wr bx dx _ (HDx.out.kept HK.out (fun _ _ f => f)) j (by rw [HGL.out]; exact hlt)).mono ?_
              rintro e w8 ⟨b8, c8, rfl, ho8, hk8⟩
              have sx : (dx.now.getD j []).length = 64 ∧ ∀ u ∈ dx.now.getD j [], IsByte u := Dsk.Sectors.getD HDx.out.wf.now (by rw [HDx.out.wf.len, HGL.out]; exact hlt)
              have sw : (wl.getD j []).length = 64 ∧ ∀ u ∈ wl.getD j [], IsByte u := Dsk.Sectors.getD HWS.out (by rw [WL.out]; exact hlt)
              have sn : (nl.getD j []).length = 64 ∧ ∀ u ∈ nl.getD j [], IsByte u := Dsk.Sectors.getD HNS.out (by rw [NL.out]; exact hlt)
              have hcs := HCS.out j hlt
              obtain ⟨pw, qw, cw, hqw, rw8, gw8⟩ := OwnRows.sector ((HW7.out.kept HK.out (fun _ _ f => f)).kept hk8 (fun _ _ f => f)) (i := j) (by rw [WL.out]; exact hlt) sw.1
              obtain ⟨pn, qn, cn, hqn, rn8, gn8⟩ := OwnRows.sector ((HN7.out.kept HK.out (fun _ _ f => f)).kept hk8 (fun _ _ f => f)) (i := j) (by rw [NL.out]; exact hlt) sn.1
              have HK8 := Lib.hid (HK.out.then hk8)
              generalize dx.now.getD j [] = X at *
              generalize wl.getD j [] = W at *
              generalize nl.getD j [] = N at *
              have SX := Lib.hid sx
              have SW := Lib.hid sw
              have SN := Lib.hid sn
              have CS := Lib.hid hcs
              have RX := Lib.hid ho8.reads
              have RW := Lib.hid rw8
              have RN := Lib.hid rn8
              clear sx sw sn hcs ho8 rw8 rn8 hk8 HK
              have rp : Reads w8 (.slice (some ⟨pn, 0, none⟩) 32 qn) (N.take 32) (fun k => Fr k) := RN.out.take 32 (by rw [SN.out.1]; omega) (by rw [SN.out.1]; omega)
              have rq : Reads w8 (.slice (some ⟨pw, 0 + 32, none⟩) (64 - 32) (qw - 32)) (W.drop 32) (fun k => Fr k) := RW.out.drop 32 (by rw [SW.out.1]; omega)
              have lp : (N.take 32).length = 32 := by simp only [List.length_take]; have := SN.out.1; omega
              have lq : (W.drop 32).length = 32 := by simp only [List.length_drop]; have := SW.out.1; omega
              have bp : ∀ u ∈ N.take 32, IsByte u := fun u hu => SN.out.2 u (List.mem_of_mem_take hu)
              have bq : ∀ u ∈ W.drop 32, IsByte u := fun u hu => SW.out.2 u (List.mem_of_mem_drop hu)
              generalize N.take 32 = P1 at *
              generalize W.drop 32 = Q1 at *
              have RP := Lib.hid rp
              have RQ := Lib.hid rq
              have LP := Lib.hid lp
              have LQ := Lib.hid lq
              have BP := Lib.hid bp
              have BQ := Lib.hid bq
              clear rp rq lp lq bp bq
              have i0 : (0 : Int) ≤ (j : Int) := Int.natCast_nonneg _
              have i1 : (j : Int) < (n : Int) := by omega
              have z1 : (32 : Int) ≤ (qn : Int) := by omega
              have z2 : (32 : Int) ≤ (qw : Int) := by omega
              have z3 : ¬ qw = 32 := by omega
              have hz1 : (([] : List Value).length + P1.length) * (1 + 1) ≤ 140737488355328 := by simp only [List.length_nil]; have := LP.out; omega
              have HZ1 := Lib.hid hz1
              clear hz1
              have hz2 : (P1.length + Q1.length) * (1 + 1) ≤ 140737488355328 := by have := LP.out; have := LQ.out; omega
              have HZ2 := Lib.hid hz2
              clear hz2
              have lx : X.length < 1000000000 := by have := SX.out.1; omega
              have lpq : (P1 ++ Q1).length < 1000000000 := by rw [List.length_append]; have := LP.out; have := LQ.out; omega
              have bpq : ∀ u ∈ P1 ++ Q1, IsByte u := fun u hu => by
                rcases List.mem_append.1 hu with h | h
                · exact BP.out u h
                · exact BQ.out u h
              have LX := Lib.hid lx
              have LPQ := Lib.hid lpq
              have BPQ := Lib.hid bpq
              clear lx lpq bpq
              have hqf : ∀ w' : World, Kept Nob w8 w' → w'.cell? ⟨gw, j, none⟩ = some (.slice (some ⟨pw, 0, none⟩) 64 qw) ∧ w'.cell? ⟨gn, j, none⟩ = some (.slice (some ⟨pn, 0, none⟩) 64 qn) := fun w' hk => by
                have e1 : w'.cell? ⟨gw, j, none⟩ = w8.cell? ⟨gw, j, none⟩ := hk.cell gw8 (fun f => f)
                have e2 : w'.cell? ⟨gn, j, none⟩ = w8.cell? ⟨gn, j, none⟩ := hk.cell gn8 (fun f => f)
                exact ⟨e1.trans cw, e2.trans cn⟩
              have HQF := Lib.hid hqf
              clear hqf
              go_wp2_with fail
              go_region_held3 (fun w' => w'.cell? ⟨gw, j, none⟩ = some (.slice (some ⟨pw, 0, none⟩) 64 qw) ∧ w'.cell? ⟨gn, j, none⟩ = some (.slice (some ⟨pn, 0, none⟩) 64 qn)) (go_keep)
                (first
                  | (refine step_append_pg rfl _ _ 30 rfl tBytes (.slice (some ⟨w8.heap.size, 0, none⟩) 0 0) (.slice (some ⟨pn, 0, none⟩) 32 qn) [] P1 (From w8.heap.size) (fun k => Fr k) rfl rfl (Own.empty_new w8 _).drew (RP.out.alloc _).drew (fun u hu => (BP.out u hu).one) HZ1.out ?_; intro b9 c9 w9 ho9 hk9; simp only [List.length_nil, Nat.zero_add, List.nil_append] at ho9 ⊢; have HO9 := Lib.hid ho9; have hk9' := Kept.newrow hk9; have q1 := (HQF.out w9 hk9').1; have q2 := (HQF.out w9 hk9').2; have HK9 := Lib.hid hk9'; clear ho9 hk9 hk9')
                  | (refine step_append_pg rfl _ _ 30 rfl tBytes (.slice b9 P1.length c9) (.slice (some ⟨pw, 0 + 32, none⟩) (64 - 32) (qw - 32)) P1 Q1 _ (fun k => Fr k) rfl rfl HO9.out (RQ.out.kept HK9.out (fun _ _ f => f)) (fun u hu => (BQ.out u hu).one) HZ2.out ?_; intro b10 c10 w10 ho10 hk10; have HO10 := Lib.hid ho10; have hk10' := Kept.newrow2 HK9.out HO9.out hk10; have q3 := (HQF.out w10 hk10').1; have q4 := (HQF.out w10 hk10').2; have HK10 := Lib.hid hk10'; clear ho10 hk10 hk10')
                  | (go_at_call 14; refine (bytes_rows w10 _ _ X (P1 ++ Q1) _ _ (RX.out.kept HK10.out (fun _ _ f => f)) HO10.out.reads SX.out.2 BPQ.out LX.out LPQ.out).mono ?_; rintro e w11 ⟨rh, nh, rfl, hrh, rfl⟩))
              have HRH := Lib.hid hrh
              have hlw : W.length < 1000000000 := by have := SW.out.1; omega
              have hln : N.length < 1000000000 := by have := SN.out.1; omega
              have HLW := Lib.hid hlw
              have HLN := Lib.hid hln
              clear hrh hlw hln
              go_wp2_with fail
              refine (bytes_rows _ _ _ X W _ _ ((RX.out.kept HK10.out (fun _ _ f => f)).kept (Kept.drewN Nob w10 _) (fun _ _ f => f)) ((RW.out.kept HK10.out (fun _ _ f => f)).kept (Kept.drewN Nob w10 _) (fun _ _ f => f)) SX.out.2 SW.out.2 LX.out HLW.out).mono ?_
              rintro e w11 ⟨ro, no, rfl, hro, rfl⟩
              have HRO := Lib.hid hro
              clear hro
              go_wp2_with fail
              refine (bytes_rows _ _ _ X N _ _ ((RX.out.kept HK10.out (fun _ _ f => f)).kept (Kept.drewN Nob w10 _) (fun _ _ f => f)) ((RN.out.kept HK10.out (fun _ _ f => f)).kept (Kept.drewN Nob w10 _) (fun _ _ f => f)) SX.out.2 SN.out.2 LX.out HLN.out).mono ?_
              rintro e w12 ⟨rf, nf, rfl, hrf, rfl⟩
              have HRF := Lib.hid hrf
              clear hrf
              have hcase : ro = true ∨ (ro = false ∧ rf = true ∧ ¬ (keep.length = 0 ∧ torn < 0)) ∨ (ro = false ∧ rf = false ∧ rh = true ∧ ¬ (keep.length = 0 ∧ torn < 0) ∧ Gd.Torn d torn j) := by
                rcases CS.out with h | ⟨h1, h2⟩ | ⟨h1, h2⟩
                · exact .inl (HRO.out.2 h)
                · cases ro
                  · refine .inr (.inl ⟨rfl, HRF.out.2 h2, fun hh => ?_⟩)
                    rcases h1 with h1 | h1
                    · exact h1 (List.eq_nil_of_length_eq_zero hh.1)
                    · omega
                  · exact .inl rfl
                · have hh := HRH.out.2 h2
                  have htn := h1.nonneg
                  cases ro
                  · cases rf
                    · exact .inr (.inr ⟨rfl, rfl, hh, fun h => by omega, h1⟩)
                    · exact .inr (.inl ⟨rfl, rfl, fun h => by omega⟩)
                  · exact .inl rfl
              have hkk : ∀ m, Kept Nob w7 (w10.drewN m) := fun m => (HK8.out.then HK10.out).then (Kept.drewN Nob w10 m)
              have HKK := Lib.hid hkk
              clear hkk
              clear HRO HRF HRH cw cn q3 q4
              rcases hcase with rfl | ⟨rfl, rfl, hno⟩ | ⟨rfl, rfl, rfl, hno, htj⟩
              · by_cases hk0 : keep.length = 0
                · have hkb : ((keep.length : Int) == 0) = true := by simp [hk0]
                  clear hk0
                  by_cases ht : torn < 0
                  · go_wp2_with fail
                    all_goals
                      go_roundw
                      case rel => exact ⟨j + 1, k, by omega, by go_num, rfl, hk1, fun h => (HKT.out h).imp fun t ht => ⟨by omega, ht.2⟩, HKK.out _⟩
                      case measure => simp [intOf]; omega
                  · go_wp2_with fail
                    all_goals
                      go_roundw
                      case rel => exact ⟨j + 1, k, by omega, by go_num, rfl, hk1, fun h => (HKT.out h).imp fun t ht => ⟨by omega, ht.2⟩, HKK.out _⟩
                      case measure => simp [intOf]; omega
                · have hkb : ((keep.length : Int) == 0) = false := by simp [hk0]
                  clear hk0
                  go_wp2_with fail
                  all_goals
                    go_roundw
                    case rel => exact ⟨j + 1, k, by omega, by go_num, rfl, hk1, fun h => (HKT.out h).imp fun t ht => ⟨by omega, ht.2⟩, HKK.out _⟩
                    case measure => simp [intOf]; omega
              · by_cases hk0 : keep.length = 0
                · have hkb : ((keep.length : Int) == 0) = true := by simp [hk0]
                  have ht : ¬ torn < 0 := fun h => hno ⟨hk0, h⟩
                  clear hk0 hno
                  go_wp2_with fail
                  all_goals
                    go_roundw
                    case rel => exact ⟨j + 1, k, by omega, by go_num, rfl, hk1, fun h => (HKT.out h).imp fun t ht => ⟨by omega, ht.2⟩, HKK.out _⟩
                    case measure => simp [intOf]; omega
                · have hkb : ((keep.length : Int) == 0) = false := by simp [hk0]
                  clear hk0 hno
                  go_wp2_with fail
                  all_goals
                    go_roundw
                    case rel => exact ⟨j + 1, k, by omega, by go_num, rfl, hk1, fun h => (HKT.out h).imp fun t ht => ⟨by omega, ht.2⟩, HKK.out _⟩
                    case measure => simp [intOf]; omega
              · have hk00 : k = 0 := by
                  by_cases h : k = 1
                  · obtain ⟨t, ht1, ht2⟩ := HKT.out h
                    have := ht2.one htj
                    omega
                  · omega
                subst hk00
                have HTJ := Lib.hid htj
                clear htj
                by_cases hk0 : keep.length = 0
                · have hkb : ((keep.length : Int) == 0) = true := by simp [hk0]
                  have ht : ¬ torn < 0 := fun h => hno ⟨hk0, h⟩
                  clear hk0 hno
                  go_wp2_with fail
                  all_goals
                    go_roundw
                    case rel => exact ⟨j + 1, 1, by omega, by go_num, rfl, by omega, fun _ => ⟨j, by omega, HTJ.out⟩, HKK.out _⟩
                    case measure => simp [intOf]; omega
                · have hkb : ((keep.length : Int) == 0) = false := by simp [hk0]
                  clear hk0 hno
                  go_wp2_with fail
                  all_goals
                    go_roundw
                    case rel => exact ⟨j + 1, 1, by omega, by go_num, rfl, by omega, fun _ => ⟨j, by omega, HTJ.out⟩, HKK.out _⟩
                    case measure => simp [intOf]; omega
            · have hkb : (k : Int) ≤ 1 := by omega
              clear HKT
              go_wp2_with fail
              refine (awake_true wr).mono ?_
              rintro e w8 ⟨rfl, hk8⟩
              go_wp2_with fail
              go_ret
              exact ⟨rfl, (HK7.out.then HK.out).then hk8⟩

set_option maxRecDepth 100000 in
theorem good_any (w : World) (n : Int) (mv kv : Value) (more : List Int) (keep : List Bool) (G1 G2 : Nat → Prop) (hm : Reads w mv (more.map (Value.int .i64)) G1) (hk : Reads w kv (keep.map Value.bool) G2) (torn : Int) :
    Calls Try.prog 5 #[.int .i64 n, mv, kv, .int .i64 torn] w (RetTrue w) := by
  by_cases h : 1 ≤ n ∧ n ≤ 20 ∧ more.length ≤ 60 ∧ keep.length ≤ 60
  · obtain ⟨m, rfl⟩ := Int.eq_ofNat_of_zero_le (show 0 ≤ n by omega)
    exact good_main w m (by omega) (by omega) mv kv more keep G1 G2 hm hk h.2.2.1 h.2.2.2 torn
  · obtain ⟨ma, mc, rfl, _⟩ := hm.shape
    obtain ⟨ka, kc, rfl, _⟩ := hk.shape
    simp only [List.length_map]
    have HA := Lib.hid (awake_true w)
    clear hm hk
    generalize more.length = a at *
    generalize keep.length = b at *
    by_cases h0 : n < 1
    · go_enter Try.func5, Try.ntmps5
      go_wp2_with (go_at_call 7; refine HA.out.mono ?_; rintro e w7 ⟨rfl, hk7⟩)
      go_ret
      exact ⟨rfl, hk7⟩
    · by_cases h1 : 20 < n
      · go_enter Try.func5, Try.ntmps5
        go_wp2_with (go_at_call 7; refine HA.out.mono ?_; rintro e w7 ⟨rfl, hk7⟩)
        go_ret
        exact ⟨rfl, hk7⟩
      · by_cases h2 : 60 < (a : Int)
        · go_enter Try.func5, Try.ntmps5
          go_wp2_with (go_at_call 7; refine HA.out.mono ?_; rintro e w7 ⟨rfl, hk7⟩)
          go_ret
          exact ⟨rfl, hk7⟩
        · have h3 : 60 < (b : Int) := by omega
          go_enter Try.func5, Try.ntmps5
          go_wp2_with (go_at_call 7; refine HA.out.mono ?_; rintro e w7 ⟨rfl, hk7⟩)
          go_ret
          exact ⟨rfl, hk7⟩
end Go.Proofs.Ythjjckpgjfjokaa
