/- The document's own disk (pergolaref8.Disk): what it is in memory, beside the plain model Dsk; place, full, op, NewDisk, Cut, Read. -/
import Derived.Test.YthppgchmamonnaaGreatDoorPgDisk8
namespace Go.Proofs.YthppgchmamonnaaGreatDoor
open Go.RowKit

/-- a sector as the document keeps it: a row that is read, or none at all for noughts -/
def GoodRow (w : World) (v : Value) (x : List Value) (R : Nat → Prop) : Prop := (Reads w v x R ∧ x.length = 64) ∨ (v = .slice none 0 0 ∧ x = Dsk.zeroSector)
theorem GoodRow.kept {w w' : World} {v : Value} {x : List Value} {R G : Nat → Prop} (h : GoodRow w v x R) (hk : Kept G w w') (hd : ∀ k, R k → ¬ G k) : GoodRow w' v x R := by
  rcases h with h | h
  · exact .inl ⟨h.1.kept hk hd, h.2⟩
  · exact .inr h
theorem GoodRow.mono {w : World} {v : Value} {x : List Value} {R S : Nat → Prop} (h : GoodRow w v x R) (hg : ∀ k, k < w.heap.size → R k → S k) : GoodRow w v x S := by
  rcases h with h | h
  · exact .inl ⟨h.1.mono hg, h.2⟩
  · exact .inr h

/-- the rows behind a list of slices -/
def GoodRows (w : World) (gs : List Value) (xss : List (List Value)) (R : Nat → Prop) : Prop := gs.length = xss.length ∧ ∀ (i : Nat) (v : Value) (x : List Value), gs[i]? = some v → xss[i]? = some x → GoodRow w v x R
/-- what waits: the k-th slice reads the sector that was written k-th -/
def WaitRows (w : World) (ns : List Value) (order : List Int) (now : List (List Value)) (R : Nat → Prop) : Prop := ns.length = order.length ∧ ∀ (i : Nat) (v : Value) (k : Int), ns[i]? = some v → order[i]? = some k → Reads w v (now.getD k.toNat []) R

theorem GoodRows.kept {w w' : World} {gs : List Value} {xss : List (List Value)} {R G : Nat → Prop} (h : GoodRows w gs xss R) (hk : Kept G w w') (hd : ∀ k, R k → ¬ G k) : GoodRows w' gs xss R := ⟨h.1, fun i v x h1 h2 => (h.2 i v x h1 h2).kept hk hd⟩
theorem GoodRows.mono {w : World} {gs : List Value} {xss : List (List Value)} {R S : Nat → Prop} (h : GoodRows w gs xss R) (hg : ∀ k, k < w.heap.size → R k → S k) : GoodRows w gs xss S := ⟨h.1, fun i v x h1 h2 => (h.2 i v x h1 h2).mono hg⟩
theorem WaitRows.kept {w w' : World} {ns : List Value} {order : List Int} {now : List (List Value)} {R G : Nat → Prop} (h : WaitRows w ns order now R) (hk : Kept G w w') (hd : ∀ k, R k → ¬ G k) : WaitRows w' ns order now R := ⟨h.1, fun i v x h1 h2 => (h.2 i v x h1 h2).kept hk hd⟩
theorem WaitRows.mono {w : World} {ns : List Value} {order : List Int} {now : List (List Value)} {R S : Nat → Prop} (h : WaitRows w ns order now R) (hg : ∀ k, k < w.heap.size → R k → S k) : WaitRows w ns order now S := ⟨h.1, fun i v x h1 h2 => (h.2 i v x h1 h2).mono hg⟩

/-- The struct at block m, and all that it leads to, is the disk d; what it leads to lies in R, is read alone, and is not m. -/
def DocAt (w : World) (m : Nat) (d : Dsk) (R : Nat → Prop) : Prop :=
  ∃ gv av nv gs ns left, w.heap[m]? = some (.cells #[gv, av, nv, .int .i64 d.ops, .bool d.cut, .int .i64 left, .bool d.off] 119 (0, 0)) ∧ ¬ R m ∧
    Reads w gv gs R ∧ Reads w av (d.order.map (Value.int .i64)) R ∧ Reads w nv ns R ∧ GoodRows w gs d.good R ∧ WaitRows w ns d.order d.now R ∧
    max left 0 = d.left ∧ -9223372036854775808 ≤ left ∧ left ≤ 9223372036854775807 ∧ d.Wf ∧ Under R w.heap.size

theorem DocAt.wf {w : World} {m : Nat} {d : Dsk} {R : Nat → Prop} (h : DocAt w m d R) : d.Wf := by obtain ⟨_, _, _, _, _, _, _, _, _, _, _, _, _, _, _, _, h, _⟩ := h; exact h
theorem DocAt.under {w : World} {m : Nat} {d : Dsk} {R : Nat → Prop} (h : DocAt w m d R) : Under R w.heap.size := by obtain ⟨_, _, _, _, _, _, _, _, _, _, _, _, _, _, _, _, _, h⟩ := h; exact h
theorem DocAt.lt {w : World} {m : Nat} {d : Dsk} {R : Nat → Prop} (h : DocAt w m d R) : m < w.heap.size := by obtain ⟨_, _, _, _, _, _, hb, _⟩ := h; exact (Array.getElem?_eq_some_iff.1 hb).1
theorem DocAt.kept {w w' : World} {m : Nat} {d : Dsk} {R G : Nat → Prop} (h : DocAt w m d R) (hk : Kept G w w') (hm : ¬ G m) (hd : Disj R G) : DocAt w' m d R := by
  have hlt := h.lt
  obtain ⟨gv, av, nv, gs, ns, left, hb, hR, h1, h2, h3, h4, h5, h6, h7, h8, hw, hu⟩ := h
  exact ⟨gv, av, nv, gs, ns, left, (hk.block m hlt hm).trans hb, hR, h1.kept hk hd, h2.kept hk hd, h3.kept hk hd, h4.kept hk hd, h5.kept hk hd, h6, h7, h8, hw, hu.mono hk.size⟩

/-- scalars of the struct turn -/
theorem DocAt.scalars {w w' : World} {m : Nat} {d d' : Dsk} {R : Nat → Prop} {gv av nv : Value} {gs ns : List Value} {left' : Int}
    (hR : ¬ R m)
    (h1 : Reads w gv gs R) (h2 : Reads w av (d.order.map (Value.int .i64)) R) (h3 : Reads w nv ns R) (h4 : GoodRows w gs d.good R) (h5 : WaitRows w ns d.order d.now R) (hu : Under R w.heap.size)
    (hk : Kept (Just m) w w') (hb' : w'.heap[m]? = some (.cells #[gv, av, nv, .int .i64 d'.ops, .bool d'.cut, .int .i64 left', .bool d'.off] 119 (0, 0)))
    (e1 : d'.good = d.good) (e2 : d'.now = d.now) (e3 : d'.order = d.order) (h6 : max left' 0 = d'.left) (h7 : -9223372036854775808 ≤ left') (h8 : left' ≤ 9223372036854775807) (hw : d'.Wf) : DocAt w' m d' R := by
  have hd : ∀ k, R k → ¬ Just m k := fun k hk hj => hR (by rw [show k = m from hj] at hk; exact hk)
  exact ⟨gv, av, nv, gs, ns, left', hb', hR, h1.kept hk hd, by rw [e3]; exact h2.kept hk hd, h3.kept hk hd, by rw [e1]; exact h4.kept hk hd, by rw [e2, e3]; exact h5.kept hk hd, h6, h7, h8, hw, hu.mono hk.size⟩

theorem doc_place (w : World) (m : Nat) (d : Dsk) (R : Nat → Prop) (h : DocAt w m d R) (x : Int) :
    Calls Tryz.prog 110 #[.pointer (some ⟨m, 0, none⟩), .int .i64 x] w fun e w' => e = .returned (.int .i64 (idx x d.order 0)) ∧ w = w' := by
  obtain ⟨gv, av, nv, gs, ns, left, hb, -, -, hr, -, -, -, -, -, -, hw, -⟩ := h
  have hol := hw.orderLen
  have c1 := cell_at hb 1 _ rfl
  clear hb hw
  generalize d.order = xs at *
  obtain ⟨ad, cap, rfl, _⟩ := hr.shape
  have hc : ∀ k (h : k < xs.length), ∃ b o, ad = some ⟨b, o, none⟩ ∧ w.cell? ⟨b, o + k, none⟩ = some (.int .i64 xs[k]) := by
    intro k h
    rcases hr with ⟨hx, _⟩ | ⟨b, o, c, hv, _, _, _, hc⟩
    · simp at hx; simp [hx] at h
    · simp at hv
      exact ⟨b, o, hv.1, hc k _ (by simp [h])⟩
  have HC := Lib.hid hc
  clear hc hr
  simp only [List.length_map] at c1
  go_enter Tryz.func110, Tryz.ntmps110
  go_wp2
  go_loop [5] (fun i => ∃ k : Nat, k ≤ xs.length ∧ i = .int .i64 k ∧ Hid (idx x xs 0 = idx x (xs.drop k) k)) (fun i => xs.length - (intOf i).toNat)
  case atStart => exact ⟨0, Nat.zero_le _, rfl, rfl⟩
  case round =>
    obtain ⟨k, hk, rfl, hidx⟩ := hrel
    by_cases hlt : k < xs.length
    · obtain ⟨b, o, rfl, hcell⟩ := HC.out k hlt
      have hd := Lib.hid (idx_drop x xs k k hlt)
      by_cases hx : xs[k] = x
      · have hxb : (xs[k] == x) = true := by simpa using hx
        have HX := Lib.hid hx
        clear hx
        go_wp2
        go_ret
        refine ⟨?_, rfl⟩
        rw [hidx.out, hd.out, if_pos HX.out.symm]
        rfl
      · have hxb : (xs[k] == x) = false := by simpa using hx
        have HX := Lib.hid hx
        clear hx
        go_wp2
        go_round
        case rel => exact ⟨k + 1, by omega, by go_num, show _ = _ by rw [hidx.out, hd.out, if_neg (fun q => HX.out q.symm)]⟩
        case measure => simp [intOf]; omega
    · go_wp2
      go_ret
      refine ⟨?_, rfl⟩
      rw [hidx.out, List.drop_of_length_le (by omega)]
      rfl
end Go.Proofs.YthppgchmamonnaaGreatDoor
