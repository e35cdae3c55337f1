/- The log: mark. -/
import Derived.Test.YtcclbaphdblcfaaDoorPgWal1
import Derived.Lib.LazyBuf
namespace Go.Proofs.YtcclbaphdblcfaaDoor
open Go.RowKit

theorem over_cons {xs : List Value} {o : Nat} {v : Value} {r : List Value} (h : o < xs.length) : over (xs.set o v) (o + 1) r = over xs o (v :: r) := by
  have e1 : (xs.set o v).take (o + 1) = xs.take o ++ [v] := by
    rw [List.take_succ_eq_append_getElem (by simpa using h), List.getElem_set_self, List.take_set_of_le (Nat.le_refl _)]
  have e2 : (xs.set o v).drop (o + 1 + r.length) = xs.drop (o + (v :: r).length) := by
    rw [List.drop_set_of_lt (by omega)]; congr 1; simp; omega
  rw [over, over, e1, e2]; simp
theorem own_setCells {e : TypeId} {g n cap : Nat} {F : Nat → Prop} : ∀ (vs : List Value) (o : Nat) (xs : List Value) (w : World), Own w e (.slice (some ⟨g, 0, none⟩) n cap) xs F → o + vs.length ≤ xs.length →
    Own (w.setCells g o vs) e (.slice (some ⟨g, 0, none⟩) n cap) (over xs o vs) F ∧ Kept (Just g) w (w.setCells g o vs)
  | [], o, xs, w, h, _ => by rw [over_nil]; exact ⟨h, Kept.refl _ _⟩
  | v :: r, o, xs, w, h, hl => by
    simp only [List.length_cons] at hl
    have h1 := h.set o v
    have h2 := own_setCells r (o + 1) (xs.set o v) _ h1 (by rw [List.length_set]; omega)
    rw [over_cons (by omega)] at h2
    exact ⟨h2.1, (kept1 w g o v).trans' h2.2⟩

section
variable {P : Program} {ops : Array Oper} {rest : List Oper} {o : Oper} {a : Act} {Q : Exit → Act → World → Prop} {w : World}
/-- copy(dst, "..") as a step of the walk -/
theorem wpList_copy_str (hgd : o.guard = none) (d s : Operand) (t t' : TypeId) (ho : o.op = .call { callee := .builtin .copy, args := #[d, s], argTypes := #[t, t'] })
    {e : TypeId} {z : Value} {bytes : Nat} (T : Plain P t e z bytes) (xs : List Value) (F : Nat → Prop) (g n cap off dl dc : Nat) (t0 : ByteArray) (hd : a.eval d = .slice (some ⟨g, off, none⟩) dl dc) (hs : a.eval s = .string t0)
    (hown : Own w e (.slice (some ⟨g, 0, none⟩) n cap) xs F) (hfit : off + t0.size ≤ xs.length) (hle : t0.size ≤ dl)
    (h : ∀ (w' : World), Own w' e (.slice (some ⟨g, 0, none⟩) n cap) (over xs off (t0.data.toList.map fun x => Value.int .u8 (x.toNat : Int))) F → Kept (Just g) w w' → wpList P ops Q rest (a.put o.dst (goInt t0.size)) w') :
    wpList P ops Q (o :: rest) a w := by
  refine wpList_plain hgd fun K hK => ?_
  obtain ⟨i, hi, hz, hsz, hb⟩ := T.info
  have hn := hown.len
  have hl : (t0.data.toList.map fun x => Value.int .u8 (x.toNat : Int)).length = t0.size := by rw [List.length_map, ← Lib.size_eq]
  have hrun := run_copy_string (P := P) w t t' o.type e g off dl dc t0 T.sl (fun w => by simp [sizeOf, typeInfo, hi, hsz]) hle
    (fun j hj => by rw [hown.cell (off + j) _ (List.getElem?_eq_getElem (by omega))]; rfl) (fun j hj => hown.frozen (off + j))
  obtain ⟨h1, h2⟩ := own_setCells _ off xs w hown (by rw [hl]; exact hfit)
  unfold Oper.wp execOp
  simp only [ho, resolve, invoke, builtin, Sem.run_bind, Sem.run_pure, Result.andThen_ok, List.map_toArray, List.map_cons, List.map_nil, hd, hs, hrun]
  exact hK _ _ (h _ h1 h2)
end

/-- what is in the mark, step by step -/
theorem mark_plain (hf base first size : Nat) : over (over (over ((over Dsk.zeroSector 0 Wal.sign).set 4 (.int .u8 hf)) 8 (Wal.word base)) 16 (Wal.word first)) 24 (Wal.word size) = Wal.markRow hf base first size := by
  rfl

set_option maxRecDepth 100000 in
set_option maxHeartbeats 1000000 in
theorem mark_any (w : World) (hf base first size : Nat) (h0 : hf ≤ 1) (_h1 : base < 1099511627776) (_h2 : first < 1099511627776) (_h3 : size < 1099511627776) :
    Calls Tryd.prog 58 #[.agg #[.int .i64 hf, .int .i64 base, .int .i64 first, .int .i64 size]] w (RetRow w 5 (Wal.markRow hf base first size) False) := by
  have hmk := make64
  have HZ := Lib.hid (own_zero64 (w.alloc (.cells #[.int .i64 hf, .int .i64 base, .int .i64 first, .int .i64 size] 68)))
  have hz : Own ((w.alloc (.cells #[.int .i64 hf, .int .i64 base, .int .i64 first, .int .i64 size] 68)).alloc (.cells zero64 5)) 5 (.slice (some ⟨w.heap.size + 1, 0, none⟩) 64 64) Dsk.zeroSector (From w.heap.size) := by
    have := HZ.out.mono (G := From w.heap.size) (fun j _ hj => by simp [From] at *; omega)
    simpa using this
  have HZ2 := Lib.hid hz
  clear hz HZ
  have kz := (Kept.alloc Nob w (.cells #[.int .i64 hf, .int .i64 base, .int .i64 first, .int .i64 size] 68)).trans' (Kept.alloc Nob _ (.cells zero64 5))
  have HKZ := Lib.hid kz
  clear kz
  go_enter Tryd.func58, Tryd.ntmps58
  go_wp2_with ((with_reducible refine wpList_copy_str rfl _ _ 47 9 rfl tBytes Dsk.zeroSector (From w.heap.size) (w.heap.size + 1) 64 64 0 64 64 ⟨#[87, 65, 76, 50]⟩ rfl rfl HZ2.out (by decide) (by decide) ?_); intro w2 ho2 hk2; have hh2 := (hk2.block w.heap.size (by simp; omega) (fun h => by have : w.heap.size = w.heap.size + 1 := h; omega)); have p0 : w2.cell? ⟨w.heap.size, 0, none⟩ = some (.int .i64 hf) := (World.cell?_of_block hh2).trans (by simp); have p1 : w2.cell? ⟨w.heap.size, 1, none⟩ = some (.int .i64 base) := (World.cell?_of_block hh2).trans (by simp); have p2 : w2.cell? ⟨w.heap.size, 2, none⟩ = some (.int .i64 first) := (World.cell?_of_block hh2).trans (by simp); have p3 : w2.cell? ⟨w.heap.size, 3, none⟩ = some (.int .i64 size) := (World.cell?_of_block hh2).trans (by simp); have e4 := ho2.cell 4 _ rfl; have f4 := ho2.frozen 4; have HO2 := Lib.hid ho2; have HK2 := Lib.hid hk2; clear ho2 hk2 hh2)
  have HO3 := Lib.hid (HO2.out.set 4 (.int .u8 hf))
  have HK3 := Lib.hid (HK2.out.trans' (kept1 w2 (w.heap.size + 1) 4 (.int .u8 hf)))
  have HL3 : Hid (((over Dsk.zeroSector 0 Wal.sign).set 4 (.int .u8 hf)).length = 64) := rfl
  have ks := kept1 w2 (w.heap.size + 1) 4 (.int .u8 (hf : Int))
  have p1 := (ks.cell (p := ⟨w.heap.size, 1, none⟩) (cell_lt p1) (fun h => absurd (show w.heap.size = w.heap.size + 1 from h) (by omega))).trans p1
  have p2 := (ks.cell (p := ⟨w.heap.size, 2, none⟩) (cell_lt p2) (fun h => absurd (show w.heap.size = w.heap.size + 1 from h) (by omega))).trans p2
  have p3 := (ks.cell (p := ⟨w.heap.size, 3, none⟩) (cell_lt p3) (fun h => absurd (show w.heap.size = w.heap.size + 1 from h) (by omega))).trans p3
  clear HO2 e4 f4 ks
  have HP4 := Lib.hid (put_word (w2.setCell ⟨w.heap.size + 1, 4, none⟩ (.int .u8 hf)).drew (w.heap.size + 1) 8 56 56 64 64 ((over Dsk.zeroSector 0 Wal.sign).set 4 (.int .u8 hf)) (From w.heap.size) HO3.out.drew (by rw [HL3.out]; omega) (by omega) base)
  go_region_held3 (fun w' => w'.cell? ⟨w.heap.size, 1, none⟩ = some (.int .i64 base)) (first | (go_keep; done) | assumption)
    ((go_at_call 67; refine HP4.out.mono ?_; rintro e w4 ⟨rfl, ho4, hk4⟩; have hh := (hk4.block w.heap.size (cell_lt p1) (fun h => absurd (show w.heap.size = w.heap.size + 1 from h) (by omega)));
      have p1 := (World.cell?_of_block (a := ⟨w.heap.size, 1, none⟩) hh).trans p1; have p2 := (World.cell?_of_block (a := ⟨w.heap.size, 2, none⟩) hh).trans p2; have p3 := (World.cell?_of_block (a := ⟨w.heap.size, 3, none⟩) hh).trans p3; have HO4 := Lib.hid ho4; have HK4 := Lib.hid (HK3.out.trans' ((Kept.drew _ _).trans' hk4)); clear ho4 hk4 hh))
  have HL4 : Hid ((over ((over Dsk.zeroSector 0 Wal.sign).set 4 (.int .u8 hf)) 8 (Wal.word base)).length = 64) := by
    show _ = _
    rw [over_length (by rw [HL3.out, Wal.word_length]; omega), HL3.out]
  go_wp2_with fail
  have HP5 := Lib.hid (put_word (w4).drew (w.heap.size + 1) 16 48 48 64 64 (over ((over Dsk.zeroSector 0 Wal.sign).set 4 (.int .u8 hf)) 8 (Wal.word base)) (From w.heap.size) HO4.out.drew (by rw [HL4.out]; omega) (by omega) first)
  go_region_held3 (fun w' => w'.cell? ⟨w.heap.size, 2, none⟩ = some (.int .i64 first)) (first | (go_keep; done) | assumption)
    ((go_at_call 67; refine HP5.out.mono ?_; rintro e w5 ⟨rfl, ho5, hk5⟩; have hh := (hk5.block w.heap.size (cell_lt p1) (fun h => absurd (show w.heap.size = w.heap.size + 1 from h) (by omega)));
      have p1 := (World.cell?_of_block (a := ⟨w.heap.size, 1, none⟩) hh).trans p1; have p2 := (World.cell?_of_block (a := ⟨w.heap.size, 2, none⟩) hh).trans p2; have p3 := (World.cell?_of_block (a := ⟨w.heap.size, 3, none⟩) hh).trans p3; have HO5 := Lib.hid ho5; have HK5 := Lib.hid (HK4.out.trans' ((Kept.drew _ _).trans' hk5)); clear ho5 hk5 hh))
  have HL5 : Hid ((over (over ((over Dsk.zeroSector 0 Wal.sign).set 4 (.int .u8 hf)) 8 (Wal.word base)) 16 (Wal.word first)).length = 64) := by
    show _ = _
    rw [over_length (by rw [HL4.out, Wal.word_length]; omega), HL4.out]
  go_wp2_with fail
  have HP6 := Lib.hid (put_word (w5).drew (w.heap.size + 1) 24 40 40 64 64 (over (over ((over Dsk.zeroSector 0 Wal.sign).set 4 (.int .u8 hf)) 8 (Wal.word base)) 16 (Wal.word first)) (From w.heap.size) HO5.out.drew (by rw [HL5.out]; omega) (by omega) size)
  go_region_held3 (fun w' => w'.cell? ⟨w.heap.size, 3, none⟩ = some (.int .i64 size)) (first | (go_keep; done) | assumption)
    ((go_at_call 67; refine HP6.out.mono ?_; rintro e w6 ⟨rfl, ho6, hk6⟩; have hh := (hk6.block w.heap.size (cell_lt p1) (fun h => absurd (show w.heap.size = w.heap.size + 1 from h) (by omega)));
      have p1 := (World.cell?_of_block (a := ⟨w.heap.size, 1, none⟩) hh).trans p1; have p2 := (World.cell?_of_block (a := ⟨w.heap.size, 2, none⟩) hh).trans p2; have p3 := (World.cell?_of_block (a := ⟨w.heap.size, 3, none⟩) hh).trans p3; have HO6 := Lib.hid ho6; have HK6 := Lib.hid (HK5.out.trans' ((Kept.drew _ _).trans' hk6)); clear ho6 hk6 hh))
  have HL6 : Hid ((over (over (over ((over Dsk.zeroSector 0 Wal.sign).set 4 (.int .u8 hf)) 8 (Wal.word base)) 16 (Wal.word first)) 24 (Wal.word size)).length = 64) := by
    show _ = _
    rw [over_length (by rw [HL5.out, Wal.word_length]; omega), HL5.out]
  go_wp2_with fail
  go_ret
  have hm := HO6.out
  rw [mark_plain] at hm
  refine ⟨some ⟨w.heap.size + 1, 0, none⟩, 64, rfl, hm, HKZ.out.from (Nat.le_refl _) (HK6.out.mono fun j _ h => ?_), by simp⟩
  have : j = w.heap.size + 1 := h
  show w.heap.size ≤ j
  omega
end Go.Proofs.YtcclbaphdblcfaaDoor
