/- The log: write. -/
import Derived.Test.YtcclbaphdblcfaaDoorPgWal8
import Derived.Test.YtcclbaphdblcfaaDoorPgZeros
namespace Go.Proofs.YtcclbaphdblcfaaDoor
open Go.RowKit

/-- inside 'write': j sectors are written -/
def WriteRel (w3 : World) (lo : Nat) (bd : Nat) (d : Dsk) (F : Nat → Prop) (p : Nat) (bs : List Value) (j : Nat) (v : Value) (wr : World) : Prop :=
  Reads wr v (bs.drop (64 * j)) (fun x => lo ≤ x ∧ x < w3.heap.size) ∧ ∃ F', DiskAt wr bd (Wal.puts d p bs j) F' ∧ Grows F w3.heap.size F' ∧ Kept F w3 wr

/-- what a write leaves -/
structure Wrote (d d' : Dsk) (S half at_ : Nat) (bs : List Value) : Prop where
  live : Wal.Live d'
  calm : d'.order = []
  len : d'.now.length = d.now.length
  ops : d'.ops ≤ d.ops + 10000
  flat : (Wal.flat d'.now S half).take (at_ + bs.length) = (Wal.flat d.now S half).take at_ ++ bs
  other : ∀ i, i < S ∨ S + half ≤ i → d'.now.getD i [] = d.now.getD i []
/-- behind a write -/
def RetWrote (w : World) (bd : Nat) (F : Nat → Prop) (P : Dsk → Prop) (en : Ending) (w' : World) : Prop :=
  en = .returned .nilIface ∧ ∃ d' F', DiskAt w' bd d' F' ∧ Grows F w.heap.size F' ∧ Kept F w w' ∧ P d'

set_option maxRecDepth 100000 in
set_option maxHeartbeats 4000000 in
theorem log_write (w : World) (b bd frm half : Nat) (d : Dsk) (F : Nat → Prop) (h : LogHead w b bd frm half) (hD : DiskAt w bd d F) (hbF : ¬ F b) (hl : Wal.Live d) (hops : d.ops ≤ 1000000000000) (hf k E : Nat) (h1 : hf ≤ 1) (hE : E < 64)
    (v : Value) (bs : List Value) (G : Nat → Prop) (hv : Reads w v bs G) (hbs : ∀ u ∈ bs, IsByte u) (h5 : frm + 1 + 2 * half ≤ d.good.length) (hat : 64 * k + E + bs.length ≤ 64 * half) :
    Calls Tryd.prog 52 #[.pointer (some ⟨b, 0, none⟩), .int .i64 hf, .int .i64 (64 * (k : Int) + (E : Int)), v] w (RetWrote w bd F fun d' => Wrote d d' (frm + 1 + hf * half) half (64 * k + E) bs) := by
  have hm := hD.wf.most
  have hh2 : hf * half ≤ half := by
    have := Nat.mul_le_mul_right half h1
    omega
  have hnl : d.now.length = d.good.length := hD.wf.len
  have HBy := Lib.hid (log_bytes w b bd frm half d F h hD hf k E ((E + 63) / 64) h1 (by omega) (by omega) (by omega) h5 rfl)
  obtain ⟨S, hS⟩ : ∃ S, S = frm + 1 + hf * half := ⟨_, rfl⟩
  rw [← hS] at HBy ⊢
  have hSh : S + half ≤ d.good.length := by omega
  obtain ⟨va, vc, rfl, -⟩ := hv.shape
  obtain ⟨pad, hpad⟩ : ∃ pad : Nat, pad = (64 - (E + bs.length) % 64) % 64 := ⟨_, rfl⟩
  have hpad64 : pad < 64 := by omega
  have HPad := Lib.hid hpad
  have hq : (64 * (k : Int) + (E : Int)) / 64 = (k : Int) := by omega
  have HH := Lib.hid h
  have HD := Lib.hid hD
  have HV := Lib.hid hv
  have HLv := Lib.hid hl
  have HS := Lib.hid hS
  have HBs := Lib.hid (fun u hu => (hbs u hu).one : ∀ u ∈ bs, u.oneCell' = true)
  have HBb := Lib.hid hbs
  have HNL := Lib.hid hnl
  obtain ⟨xs, hxs⟩ : ∃ xs, xs = (Wal.flat d.now (S + k) ((E + 63) / 64)).take E := ⟨_, rfl⟩
  have hxl : xs.length = E := by
    rw [hxs, List.length_take, Wal.flat_length hD.wf.now _ (by omega)]
    omega
  have hxb : ∀ u ∈ xs, IsByte u := fun u hu => Wal.flat_bytes hD.wf.now _ (by omega) u (List.mem_of_mem_take (hxs ▸ hu))
  rw [← hxs] at HBy
  have HXS := Lib.hid hxs
  have HXL := Lib.hid hxl
  have HXB := Lib.hid hxb
  have HbF := Lib.hid hbF
  clear h hD hv hl hS hbs hnl hxs hxl hxb hpad hbF
  go_enter Tryd.func52, Tryd.ntmps52
  go_wp2_with fail
  refine HBy.out.mono ?_
  rintro e w1 ⟨a1, n1, c1, rfl, ho1, hk1⟩
  obtain rfl : E = n1 := (ho1.len.trans HXL.out).symm
  have HO1 := Lib.hid ho1
  have HK1 := Lib.hid hk1
  have HV1 := Lib.hid (HV.out.kept hk1 (fun _ _ f => f))
  clear ho1 hk1 HBy
  have hp3 : -(((E : Int) + (bs.length : Int)) % 64) % 64 = (pad : Int) := by rw [HPad.out]; omega
  have hp2 : (64 - ((E : Int) + (bs.length : Int)) % 64) % 64 = (pad : Int) := by rw [HPad.out]; omega
  have hxl2 : xs.length = E := HXL.out
  go_wp2_with (first
    | (at_builtin; refine wpList_append0_pg rfl _ _ 47 3 rfl tBytes Tryd.underlying3 rfl (.slice b2 (E + bs.length) c2) (xs ++ bs) _ pad rfl (by show Value.int .i64 ((64 - ((E : Int) + (bs.length : Int)) % 64) % 64) = _; rw [hp2]) HO2.out (by rw [List.length_append]; omega) ?_; intro b3 c3 w3 ho3 hk3; have HO3 := Lib.hid ho3; have HK3 := Lib.hid hk3; clear ho3 hk3)
    | (at_builtin; refine wpList_append_pg rfl _ _ 47 rfl tBytes (.slice a1 E c1) (.slice va bs.length vc) xs bs _ _ rfl rfl HO1.out HV1.out HBs.out (by omega) ?_; intro b2 c2 w2 ho2 hk2 _; rw [hxl2] at ho2 ⊢; have HO2 := Lib.hid ho2; have HK2 := Lib.hid hk2; clear ho2 hk2))
  obtain ⟨B, hB⟩ : ∃ B, B = xs ++ bs ++ List.replicate pad (.int .u8 0) := ⟨_, rfl⟩
  obtain ⟨m, hm2⟩ : ∃ m, 64 * m = E + bs.length + pad := ⟨(E + bs.length + pad) / 64, by rw [HPad.out]; omega⟩
  have hBl : B.length = 64 * m := by rw [hB, hm2]; simp only [List.length_append, List.length_replicate, hxl2]
  have hBb : ∀ u ∈ B, IsByte u := fun u hu => by
    rw [hB] at hu
    rcases List.mem_append.1 hu with hu | hu
    · rcases List.mem_append.1 hu with hu | hu
      · exact HXB.out u hu
      · exact HBb.out u hu
    · rw [List.mem_replicate] at hu
      rw [hu.2]; exact ⟨0, rfl⟩
  have hkm : k + m ≤ half := by
    have := HPad.out
    omega
  have kw2 : Kept Nob w w2 := HK1.out.from (Nat.le_refl _) (HK2.out.mono fun x _ hx => HO1.out.2 x hx)
  have ho2w : ∀ x, (Value.slice b2 (E + bs.length) c2).ownBlock = some x → w.heap.size ≤ x := fun x hx => by
    rcases HO2.out.2 x hx with h | h
    · exact HO1.out.2 x h
    · exact Nat.le_trans HK1.out.size h
  have kw3 : Kept Nob w w3 := kw2.from (Nat.le_refl _) (HK3.out.mono fun x _ hx => ho2w x hx)
  have hr3 : Reads w3 (.slice b3 (E + bs.length + pad) c3) B (fun x => w.heap.size ≤ x ∧ x < w3.heap.size) := by
    have h := HO3.out.reads
    simp only [List.length_append, hxl2] at h
    rw [hB]
    exact h.mono fun x hx hj => ⟨by
      rcases hj with hj | hj
      · exact ho2w x hj
      · exact Nat.le_trans kw2.size hj, hx⟩
  have HR0 : Hid (WriteRel w3 w.heap.size bd d F (S + k) B 0 (.slice b3 (E + bs.length + pad) c3) w3) := ⟨by simpa using hr3, F, HD.out.kept kw3 (fun _ _ f => f), Grows.refl _ _, Kept.refl _ _⟩
  have HB := Lib.hid hB
  have HM := Lib.hid hm2
  have HBl := Lib.hid hBl
  have HBB := Lib.hid hBb
  have HKW := Lib.hid kw3
  have hs3 := kw3.size
  have HHb := Lib.hid (cell_lt HH.out.c0)
  clear hB hm2 hBl hBb kw2 ho2w kw3 hr3 hp2 hp3 hq hxl2 HO1 HO2 HO3 HK1 HK2 HK3 HV1 HV
  go_loopw [3, 9] (fun v i wr => ∃ j : Nat, j ≤ m ∧ i = .int .i64 ((k : Int) + (j : Int)) ∧ WriteRel w3 w.heap.size bd d F (S + k) B j v wr) (fun v _ _ => sliceLen v)
  case atStart => exact ⟨0, Nat.zero_le _, by simp, HR0.out⟩
  case round =>
    clear HR0
    obtain ⟨j, hj, rfl, hr, F', hD', hg', hk'⟩ := hrel
    obtain ⟨ra, rc, rfl, -⟩ := hr.shape
    have hlen : (B.drop (64 * j)).length = 64 * m - 64 * j := by rw [List.length_drop, HBl.out]
    rw [hlen] at hr ⊢
    have hF'b : ∀ x, F' x → F x ∨ w3.heap.size ≤ x := hg'
    by_cases hlt : j < m
    · obtain ⟨rb, ro, rfl, -, hrc, -, -⟩ := hr.some' (by omega)
      rw [hlen] at hrc
      have hpl := (Wal.puts_length d (S + k) B j)
      have hlv := (HLv.out.puts (S + k) B j)
      have hck : (Wal.chunk B j).length = 64 := Wal.chunk_length (by rw [HBl.out]; omega)
      have hrch : Reads wr (.slice (some ⟨rb, ro, none⟩) 64 rc) (Wal.chunk B j) (fun x => w.heap.size ≤ x ∧ x < w3.heap.size) := hr.take' 64 (by omega) rfl
      have hrn : ∀ x, Reads wr (.slice x (64 * m - 64 * j) rc) (B.drop (64 * j)) (fun x => w.heap.size ≤ x ∧ x < w3.heap.size) → True := fun _ _ => trivial
      have kwr := HKW.out.nob.trans' hk'
      have hhr := HH.out.kept kwr HbF.out
      have c0 := hhr.c0
      have HSe := Lib.hid (show Calls Tryd.prog 62 #[.pointer (some ⟨b, 0, none⟩), .int .i64 hf, .int .i64 ((k : Int) + (j : Int))] wr.drew fun e w' => e = .returned (.int .i64 ((S + k + j : Nat) : Int)) ∧ ∃ n, w' = wr.drew.drewN n from by
        have := sector_any wr.drew b bd frm half (hhr.kept (Kept.drew Nob wr) (fun f => f)) hf (k + j) h1 (by omega) (by omega) (by omega)
        have e : frm + 1 + hf * half + (k + j) = S + k + j := by have := HS.out; omega
        rw [e] at this
        simpa using this)
      have HWr := Lib.hid (show ∀ n, Calls Tryd.prog 57 #[.pointer (some ⟨bd, 0, none⟩), .int .i64 ((S : Int) + (k : Int) + (j : Int)), .slice (some ⟨rb, ro, none⟩) 64 rc] (wr.drewN n) (RetWrite (wr.drewN n) bd ((Wal.puts d (S + k) B j).begun.put (S + k + j) (Wal.chunk B j)) F') from fun n => by
        have := disk_write (wr.drewN n) bd (Wal.puts d (S + k) B j) F' (hD'.kept (Kept.drewN Nob wr n) (fun _ _ f => f)) (S + k + j) (by rw [hpl.2]; omega) _ (Wal.chunk B j) _ (hrch.kept (Kept.drewN Nob wr n) (fun _ _ f => f)) ⟨hck, Wal.chunk_bytes HBB.out j⟩ (fun x hx hf' => by rcases hF'b x hf' with q | q; (have := HD.out.under x q; omega); omega) (by rw [hlv.2]; omega) hlv.1.goes
        simpa using this)
      have HG' := Lib.hid hg'
      have HK' := Lib.hid hk'
      have HF'b := Lib.hid hF'b
      have HRr := Lib.hid hr
      clear hr hD' hg' hk' hF'b hlen hpl hlv hck hrch hrn kwr hhr
      have t1 : 0 < 64 * m - 64 * j := by omega
      have t2 : (64 : Int) ≤ (rc : Int) := by omega
      have t3 : 64 ≤ 64 * m - 64 * j := by omega
      by_cases hc64 : rc = 64
      · subst hc64
        have hmj : 64 * m - 64 * j = 64 := by omega
        have HFin := Lib.hid (show Reads wr (.slice (some ⟨rb, ro, none⟩) 0 0) (B.drop (64 * (j + 1))) (fun x => w.heap.size ≤ x ∧ x < w3.heap.size) from .inl ⟨List.drop_of_length_le (by rw [HBl.out]; omega), some ⟨rb, ro, none⟩, 0, rfl, fun h => by cases h⟩)
        clear HRr
        go_wp2_with fail
        go_region_held3 (fun w' => w'.cell? ⟨b, 0, none⟩ = some (.pointer (some ⟨bd, 0, none⟩))) (first | (go_keep; done) | assumption)
          ((first
            | (go_at_call 62; refine HSe.out.mono ?_; rintro e w4 ⟨rfl, n4, rfl⟩; have q0 : (wr.drew.drewN n4).cell? ⟨b, 0, none⟩ = some (.pointer (some ⟨bd, 0, none⟩)) := c0)
            | (go_at_call 57; refine (HWr.out _).mono ?_; rintro e w5 ⟨rfl, F5, hD5, hg5, hk5⟩; have q1 := (hk5.cell (p := ⟨b, 0, none⟩) (cell_lt q0) (fun h => by rcases HF'b.out _ h with q | q; exact HbF.out q; (have h1 : b < w.heap.size := HHb.out; have h2 : w3.heap.size ≤ b := q; omega))).trans q0; have HD5 := Lib.hid hD5; have HG5 := Lib.hid hg5; have HK5 := Lib.hid hk5; clear hD5 hg5 hk5)))
        go_wp2_with fail
        have hdis : ∀ x, (w.heap.size ≤ x ∧ x < w3.heap.size) → ¬ F' x := fun x hx hf' => by
          rcases HF'b.out x hf' with q | q
          · have := HD.out.under x q; omega
          · omega
        have HN : Hid (Reads w5 (.slice (some ⟨rb, ro, none⟩) 0 0) (B.drop (64 * (j + 1))) (fun x => w.heap.size ≤ x ∧ x < w3.heap.size) ∧ ∃ F', DiskAt w5 bd (Wal.puts d (S + k) B (j + 1)) F' ∧ Grows F w3.heap.size F' ∧ Kept F w3 w5) := by
          have kd := Kept.drewN Nob wr (1 + n4)
          refine Lib.hid ⟨(HFin.out.kept kd (fun _ _ f => f)).kept HK5.out hdis, F5, HD5.out, fun x hx => ?_, ?_⟩
          · rcases HG5.out x hx with q | q
            · exact HG'.out x q
            · exact .inr (by have := HK'.out.size; simp at q; omega)
          · exact (HK'.out.trans' kd.nob).trans HK5.out (fun x hx q => by
              rcases HF'b.out x q with q | q
              · exact q
              · omega)
        clear hdis
        go_roundw
        case rel => exact ⟨j + 1, by omega, by go_num, HN.out⟩
        case measure => simp [sliceLen]; omega
      · have HFin : Hid (Reads wr (.slice (some ⟨rb, ro + 64, none⟩) (64 * m - 64 * j - 64) (rc - 64)) (B.drop (64 * (j + 1))) (fun x => w.heap.size ≤ x ∧ x < w3.heap.size)) := by
          have h := HRr.out.from' 64 (by rw [List.length_drop, HBl.out]; omega)
          rw [List.drop_drop, show 64 * j + 64 = 64 * (j + 1) from by omega] at h
          exact Lib.hid h
        clear HRr
        go_wp2_with fail
        go_region_held3 (fun w' => w'.cell? ⟨b, 0, none⟩ = some (.pointer (some ⟨bd, 0, none⟩))) (first | (go_keep; done) | assumption)
          ((first
            | (go_at_call 62; refine HSe.out.mono ?_; rintro e w4 ⟨rfl, n4, rfl⟩; have q0 : (wr.drew.drewN n4).cell? ⟨b, 0, none⟩ = some (.pointer (some ⟨bd, 0, none⟩)) := c0)
            | (go_at_call 57; refine (HWr.out _).mono ?_; rintro e w5 ⟨rfl, F5, hD5, hg5, hk5⟩; have q1 := (hk5.cell (p := ⟨b, 0, none⟩) (cell_lt q0) (fun h => by rcases HF'b.out _ h with q | q; exact HbF.out q; (have h1 : b < w.heap.size := HHb.out; have h2 : w3.heap.size ≤ b := q; omega))).trans q0; have HD5 := Lib.hid hD5; have HG5 := Lib.hid hg5; have HK5 := Lib.hid hk5; clear hD5 hg5 hk5)))
        go_wp2_with fail
        have hdis : ∀ x, (w.heap.size ≤ x ∧ x < w3.heap.size) → ¬ F' x := fun x hx hf' => by
          rcases HF'b.out x hf' with q | q
          · have := HD.out.under x q; omega
          · omega
        have HN : Hid (Reads w5 (.slice (some ⟨rb, ro + 64, none⟩) (64 * m - 64 * j - 64) (rc - 64)) (B.drop (64 * (j + 1))) (fun x => w.heap.size ≤ x ∧ x < w3.heap.size) ∧ ∃ F', DiskAt w5 bd (Wal.puts d (S + k) B (j + 1)) F' ∧ Grows F w3.heap.size F' ∧ Kept F w3 w5) := by
          have kd := Kept.drewN Nob wr (1 + n4)
          refine Lib.hid ⟨(HFin.out.kept kd (fun _ _ f => f)).kept HK5.out hdis, F5, HD5.out, fun x hx => ?_, ?_⟩
          · rcases HG5.out x hx with q | q
            · exact HG'.out x q
            · exact .inr (by have := HK'.out.size; simp at q; omega)
          · exact (HK'.out.trans' kd.nob).trans HK5.out (fun x hx q => by
              rcases HF'b.out x q with q | q
              · exact q
              · omega)
        clear hdis
        go_roundw
        case rel => exact ⟨j + 1, by omega, by go_num, HN.out⟩
        case measure => simp [sliceLen]; omega
    · have hjm : j = m := by omega
      subst hjm
      have hz : 64 * j - 64 * j = 0 := by omega
      rw [hz]
      have hpl := Wal.puts_length d (S + k) B j
      have hlv := HLv.out.puts (S + k) B j
      have hsy := Wal.sync_now hlv.1
      have kwr := HKW.out.nob.trans' hk'
      have c0 := (HH.out.kept kwr HbF.out).c0
      have HSy := Lib.hid (disk_sync wr bd (Wal.puts d (S + k) B j) F' hD' (by rw [hlv.2]; omega) hlv.1.goes)
      have HG' := Lib.hid hg'
      have HKr := Lib.hid kwr
      have HPl := Lib.hid hpl
      have HLs := Lib.hid hlv
      have HSn := Lib.hid hsy
      clear hr hD' hg' hk' hlen hz hpl hlv hsy kwr hF'b hlt hj
      go_wp2_with (go_at_call 33; refine HSy.out.mono ?_; rintro e w6 ⟨rfl, F6, hD6, hg6, hk6⟩)
      go_ret
      have hnl := HNL.out
      have hwf := HD.out.wf
      refine ⟨rfl, _, F6, hD6, fun x hx => ?_, ?_, ⟨HLs.out.1.sync, HSn.out.2.1, by rw [HSn.out.1]; exact HPl.out.1, by rw [HSn.out.2.2, HLs.out.2]; omega, ?_, fun i hi => ?_⟩⟩
      · rcases hg6 x hx with q | q
        · rcases HG'.out x q with q | q
          · exact .inl q
          · exact .inr (by omega)
        · exact .inr (by have := HKr.out.size; omega)
      · exact HKr.out.trans hk6 (fun x hx q => by
          rcases HG'.out x q with q | q
          · exact q
          · omega)
      · rw [HSn.out.1]
        have hwr := Wal.write_flat (d := d) hwf (S := S) (H := half) (a := 64 * k + E) (k := k) (b := bs) (pad := List.replicate pad (.int .u8 0)) (by omega) (by omega) j (by
          have h1 := HM.out
          have h2 := HXL.out
          have h3 : ((Wal.flat d.now (S + k) 1).take (64 * k + E - 64 * k)).length = E := by
            rw [List.length_take]
            by_cases hE0 : E = 0
            · omega
            · rw [Wal.flat_length hwf.now 1 (by omega)]; omega
          simp only [List.length_append, List.length_replicate, h3]
          exact h1) hkm (by omega) B (by
          rw [HB.out, HXS.out]
          congr 2
          by_cases hE0 : E = 0
          · subst hE0; simp
          · rw [show (E + 63) / 64 = 1 from by omega, show 64 * k + E - 64 * k = E from by omega])
        exact hwr
      · rw [HSn.out.1]
        exact Wal.puts_other d (S + k) B j (by omega) i (by omega)
end Go.Proofs.YtcclbaphdblcfaaDoor
