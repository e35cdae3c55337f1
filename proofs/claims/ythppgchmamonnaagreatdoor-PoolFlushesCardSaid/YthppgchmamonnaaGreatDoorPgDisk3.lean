/- Disk: New of a fault, Read, Write. -/
import Derived.Test.YthppgchmamonnaaGreatDoorPgDisk2
namespace Go.Proofs.YthppgchmamonnaaGreatDoor
open Go.RowKit

/-- the value v is an error: a Fault with that op, id and number -/
def FaultAt (w : World) (v : Value) (op : ByteArray) (id : Int) (code : Int) (F : Nat → Prop) : Prop :=
  ∃ g, v = .iface 81 (.pointer (some ⟨g, 0, none⟩)) ∧ F g ∧ g < w.heap.size ∧ w.heap[g]? = some (.cells #[.string op, .int .i64 id, .iface 69 (.int .i64 code)] 85 (0, 0))
theorem FaultAt.kept {w w' : World} {v : Value} {op : ByteArray} {id code : Int} {F G : Nat → Prop} (h : FaultAt w v op id code F) (hk : Kept G w w') (hd : ∀ k, F k → ¬ G k) : FaultAt w' v op id code F := by
  obtain ⟨g, h1, h2, h3, h4⟩ := h
  exact ⟨g, h1, h2, Nat.lt_of_lt_of_le h3 hk.size, (hk.block g h3 (hd g h2)).trans h4⟩
theorem FaultAt.mono {w : World} {v : Value} {op : ByteArray} {id code : Int} {F G : Nat → Prop} (h : FaultAt w v op id code F) (hg : ∀ k, k < w.heap.size → F k → G k) : FaultAt w v op id code G := by
  obtain ⟨g, h1, h2, h3, h4⟩ := h
  exact ⟨g, h1, hg g h3 h2, h3, h4⟩
/-- behind a call that hands back an error -/
def RetFault (w : World) (op : ByteArray) (id code : Int) (en : Ending) (w' : World) : Prop :=
  ∃ g, en = .returned (.iface 81 (.pointer (some ⟨g, 0, none⟩))) ∧ FaultAt w' (.iface 81 (.pointer (some ⟨g, 0, none⟩))) op id code (From w.heap.size) ∧ Kept Nob w w'

theorem fault_new (w : World) (op : ByteArray) (id code : Int) :
    Calls Tryz.prog 31 #[.string op, .int .i64 id, .iface 69 (.int .i64 code)] w (RetFault w op id code) := by
  go_enter Tryz.func31, Tryz.ntmps31
  go_wp2
  go_ret
  exact ⟨w.heap.size, rfl, ⟨_, rfl, Nat.le_refl _, by simp, heap_alloc_new w _⟩, Kept.alloc _ _ _⟩

/-- behind a Read that is done -/
def RetRead (w : World) (x : List Value) (en : Ending) (w' : World) : Prop :=
  ∃ b cap, en = .returned (.tuple #[.slice b x.length cap, .nilIface]) ∧ Own w' 5 (.slice b x.length cap) x (From w.heap.size) ∧ Kept Nob w w'
/-- behind a Read that is refused -/
def RetNoRead (w : World) (op : ByteArray) (id code : Int) (en : Ending) (w' : World) : Prop :=
  ∃ g, en = .returned (.tuple #[.slice none 0 0, .iface 81 (.pointer (some ⟨g, 0, none⟩))]) ∧ FaultAt w' (.iface 81 (.pointer (some ⟨g, 0, none⟩))) op id code (From w.heap.size) ∧ Kept Nob w w'

def opRead : ByteArray := ⟨#[114, 101, 97, 100]⟩
def opWrite : ByteArray := ⟨#[119, 114, 105, 116, 101]⟩
def opSync : ByteArray := ⟨#[115, 121, 110, 99]⟩
def opNew : ByteArray := ⟨#[110, 101, 119]⟩

theorem disk_read (w : World) (b : Nat) (d : Dsk) (F : Nat → Prop) (h : DiskAt w b d F) (k : Nat) (hk : k < d.good.length) :
    Calls Tryz.prog 64 #[.pointer (some ⟨b, 0, none⟩), .int .i64 k] w (RetRead w (d.now.getD k [])) := by
  have H := Lib.hid (disk_len w b d F h)
  obtain ⟨gv, nv, ov, hb, hF, hg, ⟨vs, hn, hn2⟩, ho, ha, hw, hu⟩ := h
  have hkn : k < d.now.length := by rw [hw.len]; exact hk
  have hkv : k < vs.length := by rw [hn2.len]; exact hkn
  have hm := hw.most
  obtain ⟨g, cap, rfl⟩ : ∃ g cap, nv = .slice (some ⟨g, 0, none⟩) vs.length cap := by
    rcases hn.shape with ⟨_, hz⟩ | ⟨g, c', cur, hx, _⟩
    · simp [hz] at hkv
    · exact ⟨g, c', hx⟩
  have hc1 := cell_at hb 1 _ rfl
  have hcell := hn.cell k vs[k] (List.getElem?_eq_getElem hkv)
  have hx : d.now.getD k [] = d.now[k] := by rw [List.getD_eq_getElem?_getD, List.getElem?_eq_getElem hkn]; rfl
  have hsec := hn2.own k vs[k] d.now[k] (List.getElem?_eq_getElem hkv) (List.getElem?_eq_getElem hkn)
  have hS := hw.now d.now[k] (List.getElem_mem hkn)
  have hcl := clone_bytes w vs[k] d.now[k] F hsec.reads hS.2 (by have := hS.1; omega)
  obtain ⟨ak, ck, hvk, _⟩ := hsec.reads.shape
  rw [hvk] at hcl hcell
  rw [hx]
  have HC := Lib.hid hcl
  have HV := Lib.hid hn2.len
  clear hcl hvk hsec hS hx ho ha hu hF hg hn hb hn2
  have hlv : vs.length = d.good.length := by rw [HV.out, hw.len]
  have hlt : decide ((d.good.length : Int) ≤ (k : Int)) = false := by simp; omega
  rw [hlv] at hc1
  clear hlv hw
  generalize d.good.length = n at *
  generalize d.now[k] = x at *
  go_enter Tryz.func64, Tryz.ntmps64
  go_wp2_with (first | (go_at_call 33; refine H.out.mono ?_; rintro e w' ⟨rfl, rfl⟩) | (go_at_call 62; refine HC.out.mono ?_; rintro e w1 ⟨b1, cap1, rfl, ho1, hk1, hn1⟩))
  go_ret2
  exact ⟨b1, cap1, rfl, ho1, hk1⟩

theorem disk_read_bad (w : World) (b : Nat) (d : Dsk) (F : Nat → Prop) (h : DiskAt w b d F) (k : Int) (hk : k < 0 ∨ d.good.length ≤ k) :
    Calls Tryz.prog 64 #[.pointer (some ⟨b, 0, none⟩), .int .i64 k] w (RetNoRead w opRead k 2) := by
  have H := Lib.hid (disk_len w b d F h)
  clear h
  have HC := fun w => Lib.hid (fault_new w opRead k 2)
  generalize d.good.length = n at *
  unfold opRead at HC
  by_cases hneg : k < 0
  · clear hk
    go_enter Tryz.func64, Tryz.ntmps64
    go_wp2_with (first | (go_at_call 33; refine H.out.mono ?_; rintro e w' ⟨rfl, rfl⟩) | (go_at_call 31; refine (HC _).out.mono ?_; rintro e w1 ⟨g1, rfl, ho1, hk1⟩))
    go_ret2
    exact ⟨g1, rfl, ho1, hk1⟩
  · have hge : decide ((n : Int) ≤ k) = true := by simp; omega
    clear hk
    go_enter Tryz.func64, Tryz.ntmps64
    go_wp2_with (first | (go_at_call 33; refine H.out.mono ?_; rintro e w' ⟨rfl, rfl⟩) | (go_at_call 31; refine (HC _).out.mono ?_; rintro e w1 ⟨g1, rfl, ho1, hk1⟩))
    go_ret2
    exact ⟨g1, rfl, ho1, hk1⟩
end Go.Proofs.YthppgchmamonnaaGreatDoor
