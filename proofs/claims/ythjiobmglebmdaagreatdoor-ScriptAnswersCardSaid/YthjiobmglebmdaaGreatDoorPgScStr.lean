/- Numbers and strings: what the library's variables hold; Itoa, Atoi, Split, Cut, Join, in this program's words. -/
import Derived.Test.YthjiobmglebmdaaGreatDoorPgScRel
import Derived.Test.YthjiobmglebmdaaGreatDoorPgScLib
import Derived.Test.YthjiobmglebmdaaGreatDoorPgIs
namespace Go.Proofs.YthjiobmglebmdaaGreatDoor
open Go.RowKit
open Go.Proofs.YthjiobmglebmdaaGreatDoor.Geo Go.Proofs.YthjiobmglebmdaaGreatDoor.Txt

/-- a text as a value -/
def strV (l : List UInt8) : Value := .string ⟨l.toArray⟩
theorem strV_one (l : List UInt8) : (strV l).oneCell' = true := rfl
theorem mkL (s : ByteArray) : (⟨s.data.toList.toArray⟩ : ByteArray) = s := by cases s; simp
/-- what the library's variables hold -/
structure Env (w : World) : Prop where
  tab : Lib.TabIs Tryz.prog w "internal/strconv.uint64pow10" .u64 Lib.pow10Tab
  syn : ∃ tp p, w.var? Tryz.prog "strconv.ErrSyntax" = some #[.iface tp p]
  rng : ∃ tp p, w.var? Tryz.prog "strconv.ErrRange" = some #[.iface tp p]
  max : ∃ m, w.cell? ⟨4, 0, none⟩ = some (.int .i64 m)
theorem var_kept {P : Program} {w w' : World} {name : String} {cs : Array Value} (h : w.var? P name = some cs) (hk : Kept Nob w w') : w'.var? P name = some cs := by
  unfold World.var? at h ⊢
  cases hg : P.globalNamed name with
  | none => rw [hg] at h; simp at h
  | some g =>
    rw [hg] at h
    simp only [Option.bind_some] at h ⊢
    cases hb : w.heap[g]? with
    | none => rw [hb] at h; simp at h
    | some o =>
      have hlt : g < w.heap.size := (Array.getElem?_eq_some_iff.1 hb).1
      rw [hk.block g hlt (fun f => f)]
      exact h
theorem Env.kept {w w' : World} (h : Env w) (hk : Kept Nob w w') : Env w' := by
  obtain ⟨h1, ⟨a, b, h2⟩, ⟨c, d, h3⟩, ⟨m, h4⟩⟩ := h
  exact ⟨var_kept h1 hk, ⟨a, b, var_kept h2 hk⟩, ⟨c, d, var_kept h3 hk⟩, ⟨m, (hk.cell (cell_lt h4) (fun f => f)).trans h4⟩⟩
theorem Kept.below' {w w' : World} (h : Below w.heap.size w w') : Kept Nob w w' :=
  ⟨h.os, h.tape, h.output, h.size, fun k hk _ => h.block k hk⟩
theorem Kept.grow (w : World) (k : Nat) (os : Array Obj) : Kept Nob w (Go.Sort.grow (w.drewN k) os) :=
  ⟨rfl, rfl, rfl, by simp [Go.Sort.grow, World.drewN], fun i hi _ => by
    show (w.heap ++ os)[i]? = w.heap[i]?
    rw [Array.getElem?_append_left hi]⟩

theorem str_itoa (w : World) (n : Int) (h0 : -9223372036854775808 ≤ n) (h1 : n ≤ 9223372036854775807) (hE : Env w) :
    Calls Tryz.prog 27 #[.int .i64 n] w fun e w' => e = .returned (strV (Lib.itoa n)) ∧ Kept Nob w w' := by
  refine (Tryz.strconv_Itoa n h0 h1 w hE.tab).mono ?_
  rintro e w' ⟨rfl, k, os, rfl⟩
  exact ⟨rfl, Kept.grow w k os⟩
theorem str_atoi (w : World) (s : List UInt8) (hs : s.length ≤ 281474976710656) (hE : Env w) :
    Calls Tryz.prog 125 #[strV s] w fun e w' => ∃ v t, e = .returned (.tuple #[.int .i64 v, t]) ∧ NilIff (∃ u, Lib.atoiAll s = .ok u) t ∧ (-9223372036854775808 ≤ v ∧ v ≤ 9223372036854775807) ∧ (∀ u, Lib.atoiAll s = .ok u → v = u) ∧ Kept Nob w w' := by
  cases h : Lib.atoiAll s
  · rename_i v
    refine (Tryz.strconv_Atoi_ok ⟨s.toArray⟩ (by show s.toArray.size ≤ _; simp; omega) v (by simpa using h) w).mono ?_
    rintro e w' ⟨rfl, hw⟩
    refine ⟨v, _, rfl, NilIff.yes ⟨v, rfl⟩, Lib.atoiAll_bounds h, (fun u hu => by injection hu), ?_⟩
    rcases hw with rfl | ⟨t, rfl⟩
    · exact Kept.refl _ _
    · exact Kept.below' (Lib.bytesWorld_below _ _ _)
  · obtain ⟨tp, p, hv⟩ := hE.syn
    refine (Tryz.strconv_Atoi_bad ⟨s.toArray⟩ (by show s.toArray.size ≤ _; simpa using hs) (fun v hv => by simp [h] at hv) (fun hv => by simp [h] at hv) tp p w hv).mono ?_
    rintro e w' ⟨N, rfl, -, -, hb⟩
    exact ⟨0, _, rfl, NilIff.no (by simp) _ _, by omega, (fun u hu => by cases hu), Kept.below' hb⟩
  · obtain ⟨tp, p, hv⟩ := hE.rng
    refine (Tryz.strconv_Atoi_range_var ⟨s.toArray⟩ (by show s.toArray.size ≤ _; simpa using hs) (by simpa using h) tp p w hv).mono ?_
    rintro e w' ⟨N, rfl, -, -, hb⟩
    refine ⟨_, _, rfl, NilIff.no (by simp) _ _, ?_, (fun u hu => by cases hu), Kept.below' hb⟩
    exact Lib.atoiSat_bounds _

theorem strs_reads (w : World) (l : List (List UInt8)) (e : TypeId) (n : Nat) (hn : l.length = n) :
    Reads (w.alloc (.cells (l.map strV).toArray e)) (.slice (some ⟨w.heap.size, 0, none⟩) n n) (l.map strV) (From w.heap.size) := by
  refine .inr ⟨w.heap.size, 0, n, by simp [hn], by simp [hn], by simp, Nat.le_refl _, fun i x hx => ?_⟩
  rw [Nat.zero_add]
  exact cell_at (heap_alloc_new w _) i x (by simpa using hx)
/-- strings.Split at a blank -/
theorem str_split (w : World) (s : List UInt8) (hs : s.length < 4294967281) (hE : Env w) :
    Calls Tryz.prog 42 #[strV s, .string ⟨#[32]⟩] w fun e w' => ∃ b, e = .returned (.slice (some ⟨b, 0, none⟩) (sp s).length (sp s).length) ∧ Reads w' (.slice (some ⟨b, 0, none⟩) (sp s).length (sp s).length) ((sp s).map strV) (From w.heap.size) ∧ Kept Nob w w' := by
  obtain ⟨m, hm⟩ := hE.max
  refine (Tryz.strings_Split ⟨s.toArray⟩ ⟨#[32]⟩ m w (by show s.toArray.size < _; simpa using hs) hm (by decide)).mono ?_
  rintro e w' ⟨rfl, rfl⟩
  have hc : Lib.countB ⟨s.toArray⟩ ⟨#[32]⟩ = s.count 32 := by
    show Lib.count s.toArray.toList [32] = _
    rw [Lib.count_one]
  have hd : (Lib.splitB ⟨#[32]⟩ 0 (Lib.countB ⟨s.toArray⟩ ⟨#[32]⟩) ⟨s.toArray⟩).map Value.string = (sp s).map strV := by
    have h := Lib.splitB_data ⟨#[32]⟩ 0 (Lib.countB ⟨s.toArray⟩ ⟨#[32]⟩) ⟨s.toArray⟩
    rw [hc] at h ⊢
    have h2 : Lib.splitK [32] 0 (s.count 32) s = sp s := split_sp _ s rfl
    rw [show (⟨#[32]⟩ : ByteArray).data.toList = [32] from rfl, show (⟨s.toArray⟩ : ByteArray).data.toList = s from by simp, h2] at h
    rw [← h, List.map_map]
    refine List.map_congr_left fun x _ => ?_
    simp only [Function.comp, strV]
    try rw [mkL]
  have hl : (sp s).length = Lib.countB ⟨s.toArray⟩ ⟨#[32]⟩ + 1 := by
    have := Lib.splitB_all ⟨#[32]⟩ (by decide) 0 _ ⟨s.toArray⟩ rfl
    have h3 := congrArg List.length hd
    simp only [List.length_map] at h3
    omega
  rw [hd]
  exact ⟨w.heap.size, by rw [hl], strs_reads w (sp s) _ _ rfl, Kept.alloc _ _ _⟩
/-- strings.Cut at a comma -/
theorem str_cut (w : World) (s : List UInt8) (hs : s.length < 4294967281) (hE : Env w) :
    Calls Tryz.prog 99 #[strV s, .string ⟨#[44]⟩] w fun e w' => e = .returned (.tuple #[strV (Lib.cut s [44]).1, strV (Lib.cut s [44]).2.1, .bool (Lib.cut s [44]).2.2]) ∧ Kept Nob w w' := by
  obtain ⟨m, hm⟩ := hE.max
  refine (Tryz.strings_Cut ⟨s.toArray⟩ ⟨#[44]⟩ m w (by show s.toArray.size < _; simpa using hs) hm).mono ?_
  rintro e w' ⟨rfl, n, rfl⟩
  refine ⟨?_, Kept.drewN _ _ _⟩
  rw [show (⟨s.toArray⟩ : ByteArray).data.toList = s from by simp]
  rfl
/-- strings.Join with a blank -/
theorem str_join (w : World) (v : Value) (l : List (List UInt8)) (F : Nat → Prop) (h : Reads w v (l.map strV) F) (hN : l.length ≤ 1000000000) (hl : (Lib.join l [32]).length ≤ 140737488355328) :
    Calls Tryz.prog 28 #[v, .string ⟨#[32]⟩] w fun e w' => e = .returned (strV (Lib.join l [32])) ∧ Kept Nob w w' := by
  rcases h with ⟨hx, a, cap, rfl, _⟩ | ⟨b, o, cap, rfl, hc, hb, -, hcells⟩
  · have : l = [] := by simpa using hx
    subst this
    refine (Tryz.strings_Join_none a cap ⟨#[32]⟩ w).mono ?_
    rintro e w' ⟨rfl, rfl⟩
    exact ⟨rfl, Kept.refl _ _⟩
  · have hm : (l.map fun x => (⟨x.toArray⟩ : ByteArray)).map (·.data.toList) = l := by
      rw [List.map_map]
      conv => rhs; rw [← List.map_id l]
      refine List.map_congr_left fun x _ => ?_
      simp
    have hj := Tryz.strings_Join b o cap (l.map fun x => (⟨x.toArray⟩ : ByteArray)) ⟨#[32]⟩ w (fun j x hx => by
      simp only [List.getElem?_map, Option.map_eq_some_iff] at hx
      obtain ⟨y, hy, rfl⟩ := hx
      exact hcells j _ (by simp [hy, strV])) hb (by simp; omega) (by simpa using hc) (by rw [hm]; exact hl)
    rw [hm] at hj
    simp only [List.length_map] at hj ⊢
    refine hj.mono ?_
    rintro e w' ⟨rfl, hb⟩
    exact ⟨rfl, Kept.below' hb⟩
theorem strV_append (a b : List UInt8) : (⟨a.toArray⟩ : ByteArray) ++ ⟨b.toArray⟩ = ⟨(a ++ b).toArray⟩ := by
  apply ByteArray.ext
  simp
end Go.Proofs.YthjiobmglebmdaaGreatDoor
