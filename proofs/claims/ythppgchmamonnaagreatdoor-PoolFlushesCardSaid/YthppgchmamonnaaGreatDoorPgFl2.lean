/- Law: PoolFlushes. -/
import Derived.Test.YthppgchmamonnaaGreatDoorPgFl1
import Derived.Deep.DeepCutAuto
namespace Go.Proofs.YthppgchmamonnaaGreatDoor
open Go.RowKit

theorem FlIn.start {w0 w1 w : World} {bd : Nat} {F : Nat → Prop} (hD : DiskAt w1 bd (Dsk.fresh 64) F) (hF : ∀ x, F x → w0.heap.size ≤ x) (hk0 : Kept Nob w0 w1) (hp : PoolAt w (w1.heap.size + 1) bd w1.heap.size (Pl.none 8 8) (fun _ => False)) (hk : Kept Nob w1 w) (ls : Nat → Int) :
    FlIn w0 w bd (w1.heap.size + 1) w1.heap.size ls 0 := by
  have hs := hk0.size
  have hb := hp.lt
  refine ⟨Dsk.fresh 64, Pl.none 8 8, Nob, fun _ => pageZ 0, fun x => F x ∨ x = w1.heap.size + 1 ∨ x = w1.heap.size, ⟨F, (fun _ => False), Nob, ⟨hp, hD.kept hk (fun _ _ f => f), by show 8 * 8 ≤ _; simp [Dsk.fresh], fun p hp => (by cases hp), fun p hp => (by cases hp), Nat.zero_le _, by show 8 ≤ 100; omega, fun x hx => hx.elim, fun p hp => (by cases hp), fun x hx => hx.elim (fun e => e.elim) (fun e => e.elim), fun f => by have := hD.under _ f; omega, fun f => by have := hD.under _ f; omega, fun _ _ f => f, ?_, hk0.then hk⟩, ?_⟩, ⟨rfl, rfl, rfl, Nat.le_refl _, Nat.le_refl _, Nat.le_refl _, rfl, rfl, rfl, fun p hp => (by cases hp)⟩⟩
  · rintro x (e | e | e | e)
    · exact hF x e
    · omega
    · omega
    · exact e.elim
  · rintro x (e | e | e | e | e | e)
    · exact .inl e
    · exact .inr (.inl e)
    · exact .inr (.inr e)
    · exact e.elim
    · exact e.elim
    · exact e.elim
theorem reads_pair (w : World) (x y : Value) (t : TypeId) : Reads (w.alloc (.cells #[x, y] t)) (.slice (some ⟨w.heap.size, 0, none⟩) 2 2) [x, y] (fun k => k = w.heap.size) :=
  .inr ⟨w.heap.size, 0, 2, rfl, by simp, by simp, rfl, fun i u hu => new_cells w #[x, y] t i u hu⟩
theorem pageF_full (k : Nat) : (fullIdx (pageF k).ss (pageF k).ss.length).length = 1 := rfl
theorem pageZ_full (k : Nat) : (fullIdx (pageZ k).ss (pageZ k).ss.length).length = 0 := rfl
/-- the pages that stay dirty -/
def stays (ls : Nat → Int) (m : Int) (j : Nat) : List Value := ((List.range j).filter fun k => decide (m < ls k)).map fun k : Nat => Value.int .i64 k
theorem stays_succ (ls : Nat → Int) (m : Int) (j : Nat) : stays ls m (j + 1) = stays ls m j ++ if m < ls j then [.int .i64 j] else [] := by
  rw [stays, List.range_succ, List.filter_append, List.map_append]
  unfold stays
  congr 1
  by_cases h : m < ls j
  · simp [h]
  · simp [h]
def staysI (ls : Nat → Int) (m : Int) (j : Nat) : List Int := ((List.range j).filter fun k => decide (m < ls k)).map fun k : Nat => (k : Int)
theorem stays_ints (ls : Nat → Int) (m : Int) (j : Nat) : stays ls m j = (staysI ls m j).map (Value.int .i64) := by rw [stays, staysI, List.map_map]; rfl
theorem stays_len (ls : Nat → Int) (m : Int) (j : Nat) : (stays ls m j).length ≤ j := by
  rw [stays, List.length_map]
  exact Nat.le_trans (List.length_filter_le _ _) (by simp)
/-- inside the law: the other pool, the row of those that stay dirty -/
def FlRel (wc : World) (bq q mq : Nat) (ls : Nat → Int) (n : Nat) (m : Int) (j : Nat) (v : Value) (wr : World) : Prop :=
  ∃ X, FlTwo wc wr bq q mq ls n m j X ∧ ∃ b c, v = .slice b (stays ls m j).length c ∧ Own wr 3 v (stays ls m j) X

set_option maxRecDepth 100000 in
set_option maxHeartbeats 4000000 in
theorem fl_main (w : World) (v : Value) (xs : List Int) (G : Nat → Prop) (hl : Reads w v (xs.map (Value.int .i64)) G) (hx : xs.length ≤ 8) (mark : Int) (hm0 : 0 ≤ mark) (hm1 : mark ≤ 1000) (hT : Typed w) :
    Calls Tryz.prog 7 #[v, .int .i64 mark] w (RetTrue w) := by
  obtain ⟨va, vc, rfl, -⟩ := hl.shape
  rw [List.length_map] at hl ⊢
  have HT := Lib.hid hT
  have HL := Lib.hid hl
  clear hT hl
  go_enter Tryz.func7, Tryz.ntmps7
  go_wp2_with fail
  refine (disk_new w 64 (by omega) (by omega)).mono ?_
  rintro e w1 ⟨bd, rfl, hD1, hk1⟩
  have HN := Lib.hid (show Calls Tryz.prog 11 #[.pointer (some ⟨bd, 0, none⟩), .int .i64 8, .int .i64 8] w1 _ from pool_new w1 bd _ _ hD1 8 8 (by omega) (by simp [Dsk.fresh]) (by omega) (by omega))
  have HD1 := Lib.hid hD1
  have HK1 := Lib.hid hk1
  clear hD1 hk1
  go_wp2_with fail
  refine HN.out.mono ?_
  rintro e w2 ⟨rfl, hp2, hk2⟩
  obtain ⟨ls, hls⟩ : ∃ ls : Nat → Int, ∀ k, (h : k < xs.length) → ls k = xs[k] % 1000 := ⟨fun k => xs.getD k 0 % 1000, fun k h => by simp [h]⟩
  have HLs := Lib.hid hls
  have HR0 : Hid (FlIn w w2 bd (w1.heap.size + 1) w1.heap.size ls 0) := Lib.hid (FlIn.start HD1.out (fun x h => h.1) HK1.out hp2 hk2 ls)
  clear hp2 hk2 HN hls
  generalize w1.heap.size + 1 = b at *
  generalize w1.heap.size = mb at *
  clear HD1 HK1
  go_wp2_with fail
  go_loopw [9] (fun i wr => ∃ k : Nat, k ≤ xs.length ∧ i = .int .i64 k ∧ FlIn w wr bd b mb ls k) (fun i _ => xs.length - (intOf i).toNat)
  case atStart => exact ⟨0, Nat.zero_le _, rfl, HR0.out⟩
  case round =>
    clear HR0
    obtain ⟨k, hk, rfl, hin⟩ := hrel
    have HI := Lib.hid hin
    have HKw := Lib.hid hin.kept
    clear hin
    by_cases hlt : k < xs.length
    · have hc0 := (HL.out.kept HKw.out (fun _ _ f => f)).cell (i := k) (by rw [List.length_map]; exact hlt)
      obtain ⟨gb, go, xv, rfl, hxv, hc, -⟩ := hc0
      obtain rfl : xv = .int .i64 xs[k] := by
        rw [List.getElem?_map, List.getElem?_eq_getElem hlt] at hxv
        exact (Option.some.inj hxv).symm
      clear hxv
      have hlk := HLs.out k hlt
      have hl0 : 0 ≤ ls k := by omega
      have HRd := Lib.hid (fun W => round_any W xs[k] 1000 (by omega) (by omega))
      rw [← hlk] at HRd
      have HPin := Lib.hid (HI.out.pin (by omega))
      clear hlk HI
      have HXs := Lib.hid fun (W : World) (q : Kept Nob w W) => HL.out.kept q (fun _ _ f => f)
      generalize hxk : xs[k] = xk at *
      have HXk : Hid (∀ W, Kept Nob w W → W.cell? ⟨gb, go + k, none⟩ = some (.int .i64 xk)) := Lib.hid fun W q => by
        obtain ⟨gb', go', xv', hv', hxv', hc', -⟩ := (HXs.out W q).cell (i := k) (by rw [List.length_map]; exact hlt)
        simp only [Value.slice.injEq, Option.some.injEq, Addr.mk.injEq, and_true] at hv'
        obtain ⟨rfl, rfl⟩ := hv'
        rw [List.getElem?_map, List.getElem?_eq_getElem hlt, hxk] at hxv'
        rw [hc', ← Option.some.inj hxv']
      clear hxk HXs hc
      go_wp2_with fail
      refine HPin.out.mono ?_
      rintro e w3 ⟨pg, rfl, hp3⟩
      have HP3 := Lib.hid hp3
      have ka := Kept.alloc Nob w3 (.cells #[.int .u8 k, .int .u8 7] 5)
      have HIn := Lib.hid ((hp3.nob ka).insert (by omega) _ _ (reads_pair w3 _ _ _))
      clear ka hp3 HPin HP3
      go_wp2_with (first
        | (go_at_call 24; (with_reducible refine HIn.out.mono ?_); rintro e w5 ⟨⟨j5, rfl⟩, hp5⟩; have hc5 := HXk.out w5 hp5.kept; have HUn := Lib.hid (hp5.unpin hl0); clear hp5)
        | (go_at_call 17; (with_reducible refine (HRd.out _).mono ?_); rintro e w' ⟨rfl, rfl⟩)
        | (go_at_call 14; (with_reducible refine HUn.out.mono ?_); rintro e w6 ⟨rfl, hr6⟩; have HR6 := Lib.hid hr6; clear hr6))
      go_roundw
      case rel => exact ⟨k + 1, by omega, by go_num, HR6.out⟩
      case measure => simp [intOf]; omega
    · have hke : k = xs.length := by omega
      subst hke
      have HLg := Lib.hid (HI.out.log mark hm0)
      clear HI
      go_wp2_with (first
        | (go_at_call 22; (with_reducible refine HLg.out.mono ?_); rintro e w3 ⟨rfl, hg3⟩; have HFl := Lib.hid (hg3.flush hx); clear hg3)
        | (go_at_call 21; (with_reducible refine HFl.out.mono ?_); rintro e w4 ⟨rfl, hd4⟩; have HD4 := Lib.hid hd4; have HCr := Lib.hid (hd4.crash hx); clear hd4)
        | (go_at_call 25; (with_reducible refine HCr.out.mono ?_); rintro e w5 ⟨⟨bq, rfl, hb5⟩, hk5⟩; have HK5 := Lib.hid hk5; have HTw := Lib.hid (hb5.two hk5); clear hb5 hk5)
        | (go_at_call 11; (with_reducible refine HTw.out.mono ?_); rintro e w6 ⟨q, mq, rfl, ht6⟩; have HT6 := Lib.hid ht6; clear ht6))
      have HS0 : Hid (FlRel w4 bq q mq ls xs.length mark 0 (.slice none 0 0) w6) := Lib.hid ⟨Nob, HT6.out, none, 0, rfl, Own.nil _ _ _⟩
      clear HT6 HTw HCr HFl HLg HK5
      go_loopw [16, 17] (fun o i wr => ∃ j : Nat, j ≤ xs.length ∧ i = .int .i64 j ∧ FlRel w4 bq q mq ls xs.length mark j o wr) (fun _ i _ => xs.length - (intOf i).toNat)
      case atStart => exact ⟨0, Nat.zero_le _, rfl, HS0.out⟩
      case round =>
        clear HS0
        obtain ⟨j, hj, rfl, X, htw, ob, oc, rfl, ho⟩ := hrel
        have HTw := Lib.hid htw
        have HO := Lib.hid ho
        clear htw ho
        have HKr := Lib.hid (HD4.out.kept.then HTw.out.kept)
        by_cases hjl : j < xs.length
        · obtain ⟨gb, go, xv, rfl, hxv, hc, -⟩ := (HL.out.kept HKr.out (fun _ _ f => f)).cell (i := j) (by rw [List.length_map]; exact hjl)
          obtain rfl : xv = .int .i64 xs[j] := by
            rw [List.getElem?_map, List.getElem?_eq_getElem hjl] at hxv
            exact (Option.some.inj hxv).symm
          clear hxv
          have hlk := HLs.out j hjl
          have HRd := Lib.hid (fun W => round_any W xs[j] 1000 (by omega) (by omega))
          rw [← hlk] at HRd
          have HPin := Lib.hid (HTw.out.pin hx hjl)
          have HSt := Lib.hid (stays_succ ls mark j)
          have hsl := stays_len ls mark j
          have HXs := Lib.hid fun (W : World) (q : Kept Nob w W) => HL.out.kept q (fun _ _ f => f)
          clear hlk
          generalize hxk : xs[j] = xk at *
          have HXk : Hid (∀ W, Kept Nob w W → W.cell? ⟨gb, go + j, none⟩ = some (.int .i64 xk)) := Lib.hid fun W q => by
            obtain ⟨gb', go', xv', hv', hxv', hc', -⟩ := (HXs.out W q).cell (i := j) (by rw [List.length_map]; exact hjl)
            simp only [Value.slice.injEq, Option.some.injEq, Addr.mk.injEq, and_true] at hv'
            obtain ⟨rfl, rfl⟩ := hv'
            rw [List.getElem?_map, List.getElem?_eq_getElem hjl, hxk] at hxv'
            rw [hc', ← Option.some.inj hxv']
          clear hxk HXs hc
          go_wp2_with fail
          refine HPin.out.mono ?_
          rintro e w7 ⟨⟨pg, rfl, R7, hpa, hpX, hRX⟩, ht7, hk7⟩
          have HpX := Lib.hid hpX
          have HRX := Lib.hid hRX
          clear hpX hRX
          have HT7 := Lib.hid ht7
          have HO7 := Lib.hid (HO.out.kept hk7 (fun x hx f => f hx))
          have hc7 := HXk.out w7 (HD4.out.kept.then ht7.kept)
          by_cases hle : ls j ≤ mark
          · rw [if_pos hle] at hpa
            have hd : decide (mark < ls j) = false := decide_eq_false (by omega)
            have HE : Hid (stays ls mark (j + 1) = stays ls mark j) := Lib.hid (by rw [HSt.out, if_neg (by omega)]; simp)
            have HSl := Lib.hid (page_slots w7 pg _ R7 hpa (by simp [pageF]))
            clear ht7 hk7 hpa HPin hle
            go_wp2_with (first
              | (go_at_call 17; (with_reducible refine (HRd.out _).mono ?_); rintro e w' ⟨rfl, rfl⟩)
              | (go_at_call 23; (with_reducible refine HSl.out.mono ?_); rintro e w8 ⟨⟨a8, c8, e8, -, hk8⟩, v8, rfl⟩; simp only at e8; rw [pageF_full] at e8; subst e8; have HK8 := Lib.hid hk8; clear hk8))
            have HN : Hid (FlRel w4 bq q mq ls xs.length mark (j + 1) (.slice ob (stays ls mark j).length oc) w8) := Lib.hid ⟨X, HT7.out.nob HK8.out, ob, oc, by rw [HE.out], by rw [HE.out]; exact HO7.out.kept HK8.out (fun _ _ f => f)⟩
            go_roundw
            case rel => exact ⟨j + 1, by omega, by go_num, HN.out⟩
            case measure => simp [intOf]; omega
          · rw [if_neg hle] at hpa
            have hd : decide (mark < ls j) = true := decide_eq_true (by omega)
            have HE : Hid (stays ls mark (j + 1) = stays ls mark j ++ [.int .i64 j]) := Lib.hid (by rw [HSt.out, if_pos (by omega)])
            have HPa := Lib.hid hpa
            clear ht7 hk7 hpa HPin hle
            generalize stays ls mark j = zs at *
            go_upto_region 34 with (go_at_call 17; (with_reducible refine (HRd.out _).mono ?_); rintro e w' ⟨rfl, rfl⟩)
            go_wp2_with (first
              | (at_builtin; refine wpList_append1_pg rfl _ _ 36 rfl tInts (.slice ob zs.length oc) zs (.int .i64 j) X ⟨w7.heap.size, 0, none⟩ 1 rfl rfl (HO7.out.alloc _) (by simp) rfl (Nat.le_refl _) rfl (by omega) ?_; intro g2 cap2 w9 ho9 hk9; have HO9 := Lib.hid ho9; have HK9 := Lib.hid hk9; have hk79 := Lib.hid ((Kept.alloc X w7 (.cells #[.int .i64 j] 3)).trans' (hk9.mono fun x _ e => HO7.out.2 x e)); have HSl := Lib.hid (page_slots w9 pg _ R7 (HPa.out.kept hk79.out HpX.out HRX.out) (by simp [pageZ])); clear ho9 hk9)
              | (go_at_call 23; (with_reducible refine HSl.out.mono ?_); rintro e w8 ⟨⟨a8, c8, e8, -, hk8⟩, v8, rfl⟩; simp only at e8; rw [pageZ_full] at e8; subst e8; have HK8 := Lib.hid hk8; clear hk8))
            have HN : Hid (FlRel w4 bq q mq ls xs.length mark (j + 1) (.slice (some ⟨g2, 0, none⟩) (zs.length + 1) cap2) w8) := Lib.hid (by
              have hl2 : (zs ++ [Value.int .i64 j]).length = zs.length + 1 := by simp
              refine ⟨fun x => X x ∨ (w7.heap.size ≤ x ∧ x < w9.heap.size), (HT7.out.away hk79.out fun x hx => hx).nob HK8.out, some ⟨g2, 0, none⟩, cap2, by rw [HE.out, hl2], ?_⟩
              rw [HE.out]
              refine (HO9.out.mono fun x hx9 hx => ?_).kept HK8.out (fun _ _ f => f)
              rcases hx with hx | hx
              · exact .inl (HO7.out.2 x hx)
              · simp at hx; exact .inr ⟨by omega, hx9⟩)
            go_roundw
            case rel => exact ⟨j + 1, by omega, by go_num, HN.out⟩
            case measure => simp [intOf]; omega
        · have hje : j = xs.length := by omega
          subst hje
          have hdr := (HD4.out.nob HTw.out.kept).dirty
          rw [show (((List.range xs.length).filter fun k => decide (mark < ls k)).map fun k : Nat => Value.int .i64 k) = stays ls mark xs.length from rfl] at hdr
          have HDr := Lib.hid hdr
          clear hdr
          have HOr := Lib.hid HO.out.reads
          have HDn := Lib.hid (HD4.out.nob HTw.out.kept)
          have hlb : (staysI ls mark xs.length).length < 1000000000 := by
            have := stays_len ls mark xs.length
            rw [stays_ints, List.length_map] at this
            omega
          have HLb := Lib.hid hlb
          have HSI := Lib.hid (stays_ints ls mark xs.length)
          clear HO HTw HKr hlb
          generalize stays ls mark xs.length = zs at *
          go_wp2_with (first
            | (go_at_call 16; (with_reducible refine HDr.out.mono ?_); rintro e w7 ⟨⟨vd, rfl, hrd⟩, hk7⟩; have hi7 := ints_any w7 vd (.slice ob zs.length oc) (staysI ls mark xs.length) (staysI ls mark xs.length) _ X (by rw [← HSI.out]; exact hrd) (by rw [← HSI.out]; exact HOr.out.kept hk7 (fun _ _ f => f)) HLb.out HLb.out; have HI7 := Lib.hid hi7; have HD7 := Lib.hid (HDn.out.nob hk7); clear hrd hk7 hi7)
            | (go_at_call 26; (with_reducible refine HI7.out.mono ?_); rintro e w8 ⟨r8, n8, rfl, hr8, rfl⟩; obtain rfl := hr8.2 rfl; have HF8 := Lib.hid (HD7.out.nob (Kept.drewN Nob w7 n8)).flush; clear hr8)
            | (go_at_call 21; (with_reducible refine HF8.out.mono ?_); rintro e w9 ⟨rfl, hk9⟩; have HK9 := Lib.hid hk9; clear hk9)
            | (go_at_call 9; (with_reducible refine (awake12 _ (HT.out.kept HK9.out (fun f => f))).mono ?_); rintro e w6 ⟨rfl, hk6⟩))
          go_ret
          exact ⟨rfl, HK9.out.then hk6⟩

set_option maxRecDepth 100000 in
theorem fl_any (w : World) (v : Value) (xs : List Int) (G : Nat → Prop) (hl : Reads w v (xs.map (Value.int .i64)) G) (mark : Int) (hT : Typed w) :
    Calls Tryz.prog 7 #[v, .int .i64 mark] w (RetTrue w) := by
  by_cases g0 : 8 < xs.length
  · obtain ⟨va, vc, rfl, -⟩ := hl.shape
    rw [List.length_map]
    clear hl
    go_enter Tryz.func7, Tryz.ntmps7
    go_wp2_with (go_at_call 9; refine (awake12 _ hT).mono ?_; rintro e w' ⟨rfl, hk⟩)
    go_ret
    exact ⟨rfl, hk⟩
  by_cases g1 : mark < 0
  · obtain ⟨va, vc, rfl, -⟩ := hl.shape
    rw [List.length_map]
    clear hl
    go_enter Tryz.func7, Tryz.ntmps7
    go_wp2_with (go_at_call 9; refine (awake12 _ hT).mono ?_; rintro e w' ⟨rfl, hk⟩)
    go_ret
    exact ⟨rfl, hk⟩
  by_cases g2 : 1000 < mark
  · obtain ⟨va, vc, rfl, -⟩ := hl.shape
    rw [List.length_map]
    clear hl
    go_enter Tryz.func7, Tryz.ntmps7
    go_wp2_with (go_at_call 9; refine (awake12 _ hT).mono ?_; rintro e w' ⟨rfl, hk⟩)
    go_ret
    exact ⟨rfl, hk⟩
  exact fl_main w v xs G hl (by omega) mark (by omega) (by omega) hT
end Go.Proofs.YthppgchmamonnaaGreatDoor
