/- The law's own likeness of two queries. -/
import Derived.Test.YthjiobmglebmdaaGreatDoorPgRfQuery
namespace Go.Proofs.YthjiobmglebmdaaGreatDoor
open Go.RowKit
open Go.Proofs.YthjiobmglebmdaaGreatDoor.Geo Go.Proofs.YthjiobmglebmdaaGreatDoor.Txt

set_option maxRecDepth 100000 in
set_option maxHeartbeats 4000000 in
theorem sc_query_same (w : World) (k x1 y1 x2 y2 : Int) (v u : Value) (l : List Pt) (F G : Nat → Prop) (h : PtsAt w v l F) (h2 : PtsAt w u l G) (hl : l.length < 1000000000) :
    Calls Tryz.prog 26 #[.agg #[.int .i64 k, .int .i64 x1, .int .i64 y1, .int .i64 x2, .int .i64 y2, v], .agg #[.int .i64 k, .int .i64 x1, .int .i64 y1, .int .i64 x2, .int .i64 y2, u]] w (RetTrue w) := by
  obtain ⟨a, cap, rfl⟩ := h.shape
  obtain ⟨a2, cap2, rfl⟩ := h2.shape
  have HC := fun (wx : World) (kx : Kept Nob w wx) => Lib.hid (ref_Points wx _ _ l l F G (h.nob kx) (h2.nob kx) hl hl)
  clear h h2
  go_enter Tryz.func26, Tryz.ntmps26
  go_wp2_with fail
  refine (HC _ ((Kept.alloc Nob w _).then (Kept.alloc Nob _ _))).out.mono ?_
  rintro e w1 ⟨b, rfl, hb, hk1⟩
  obtain rfl : b = true := hb.2 (by first | trivial | rfl)
  have HK := Lib.hid (((Kept.alloc Nob w _).then (Kept.alloc Nob _ _)).then hk1)
  clear hk1 hb
  go_wp2_with fail
  go_ret
  exact ⟨rfl, HK.out⟩
end Go.Proofs.YthjiobmglebmdaaGreatDoor
