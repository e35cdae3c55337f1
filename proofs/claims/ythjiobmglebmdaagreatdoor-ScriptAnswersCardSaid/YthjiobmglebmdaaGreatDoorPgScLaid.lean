/- From a row's own conditions (what it lists as laid, the world's shape) to what the contracts of the library ask: Env. The wrap of a row, the world's shape kept. -/
import Derived.Test.YthjiobmglebmdaaGreatDoorPgScStr
import Derived.LaidSub
import Derived.LaidMore
import Derived.LaidLaws
import Derived.Lib.LaidTab
import Derived.Stop.LaidErr
import Derived.Handed
import Derived.Shelf.Vars
namespace Go.Proofs.YthjiobmglebmdaaGreatDoor
open Go.RowKit

theorem lgTab : Tryz.prog.globalNamed "internal/strconv.uint64pow10" = some 3 := by kernel_rfl
theorem lgTabType : (Tryz.prog.globals[3]?).map (·.type) = some 196 := by kernel_rfl
theorem lgSyn : Tryz.prog.globalNamed "strconv.ErrSyntax" = some 9 := by kernel_rfl
theorem lgSynType : (Tryz.prog.globals[9]?).map (·.type) = some 51 := by kernel_rfl
theorem lgRng : Tryz.prog.globalNamed "strconv.ErrRange" = some 10 := by kernel_rfl
theorem lgRngType : (Tryz.prog.globals[10]?).map (·.type) = some 51 := by kernel_rfl
theorem lgStar : "*" ++ "errors.errorString" = "*errors.errorString" := by decide
theorem lgRow (u : TypeId) (h : Tryz.prog.typeName? 3 u = some "*errors.errorString") : u = 232 :=
  typeName_ptr_named (nm := "errors.errorString") (by rw [lgStar]; kernel_rfl) (by kernel_rfl) (by decide) u (by rw [lgStar]; exact h)
theorem lcU64 : Tryz.prog.cellsOf 69 = 1 := by kernel_rfl
theorem lcTab : Tryz.prog.cellsOf 196 = 20 := by kernel_rfl
theorem lcES : Tryz.prog.cellsOf 234 = 1 := by kernel_rfl
theorem lcStr : Tryz.prog.cellsOf 9 = 1 := by kernel_rfl
def synLaid : String × DataW Unit := ("strconv.ErrSyntax", .iface "*errors.errorString" (.ptr (.agg [.lit (.string [105, 110, 118, 97, 108, 105, 100, 32, 115, 121, 110, 116, 97, 120])])))
def rngLaid : String × DataW Unit := ("strconv.ErrRange", .iface "*errors.errorString" (.ptr (.agg [.lit (.string [118, 97, 108, 117, 101, 32, 111, 117, 116, 32, 111, 102, 32, 114, 97, 110, 103, 101])])))
def tabLaid : String × DataW Unit := ("internal/strconv.uint64pow10", Lib.tabData .u64 Lib.pow10Tab)
/-- what a row lists gives what the library's contracts ask -/
theorem env_of {l : List (String × DataW Unit)} {W : World} (h : laidMet Tryz.prog l W) (e1 : (l.filter fun x => x.1 == "internal/strconv.uint64pow10") = [tabLaid])
    (e2 : (l.filter fun x => x.1 == "strconv.ErrSyntax") = [synLaid]) (e3 : (l.filter fun x => x.1 == "strconv.ErrRange") = [rngLaid]) (hsh : W.ShapedOpen Tryz.prog) : Env W := by
  have h1 := h.filter fun x => x.1 == "internal/strconv.uint64pow10"
  have h2 := h.filter fun x => x.1 == "strconv.ErrSyntax"
  have h3 := h.filter fun x => x.1 == "strconv.ErrRange"
  rw [e1] at h1
  rw [e2] at h2
  rw [e3] at h3
  obtain ⟨a, s, hv, -, -, -⟩ := laid_sentinel h2 lgSyn lgSynType Tryz.underlying51 lgRow Tryz.underlying232 Tryz.underlying234 rfl rfl Tryz.underlying9 lcES lcStr
  obtain ⟨a2, s2, hv2, -, -, -⟩ := laid_sentinel h3 lgRng lgRngType Tryz.underlying51 lgRow Tryz.underlying232 Tryz.underlying234 rfl rfl Tryz.underlying9 lcES lcStr
  exact ⟨Lib.tabIs_of_head lgTab lgTabType Tryz.underlying196 Tryz.underlying69 lcU64 lcTab h1, ⟨_, _, hv⟩, ⟨_, _, hv2⟩, cell_of_shapedOpen_int (zero := #[.int .i64 0]) (t := 3) hsh (of_decide_eq_true (by kernel_rfl)) (by kernel_rfl) rfl (by kernel_rfl) (by kernel_rfl) Tryz.underlying3⟩

/-- the kit's wrap of a row with conditions, the world's shape kept -/
theorem handed_shaped {H : Type} {enc : TypeId × Value → H} {a : Assume} {C : Checked} {os : Os} {f : FuncId} {fn : Func} {s : ChangeSpec} {conds : List PathCond} {apart fresh handsOn again : Bool} {X : World → Array Value → Prop}
    (hX : ∀ (w w' : World) (args : Array Value), w.heap = w'.heap → X w args → X w' args)
    (own : ownKnob C.prog.godebug = none) (started : os.Started) (noInit : C.prog.inits.idxOf? f = none) (hfn : C.prog.funcs[f]? = some fn)
    (witness : ∃ (w : World) (tape : Tape) (i : Input), w.os = os ∧ (w.forCall tape i).Shaped C.prog ∧ i.vars = [] ∧ Input.okWide C.prog (w.forCall tape i) .any w.heap.size f i ∧
      ((s.pre enc C.prog fn conds apart (w.forCall tape i).memory i.args ∧ X (w.forCall tape i).memory i.args) ∧ sizedMet enc C.prog fn (OpenSpec.ofChange s) apart (w.forCall tape i).memory i.args) ∧ a.holds C.prog (lone (Frame.enter C.prog f i.args .normal) [] (w.forCall tape i)))
    (contract : ∀ (W : World) (base : Nat) (args : Array Value) (ds gs : List (DataW H)) (before : List MemPlace),
      (∀ (j : Nat) t v, fn.params[j]? = some t → args[j]? = some v → Value.okWide C.prog W .any base t v) →
      DataW.Whole enc C.prog fn.params.toList s.vars apart W args.toList ds gs before →
      conds.all (PathCond.test C.prog ⟨fn.params.toList, ds, s.plain.varTypes C.prog, gs⟩) = true →
      (DataW.weightsEach C.prog (fn.params.toList ++ s.plain.varTypes C.prog) (ds ++ gs)).all (· ≤ reachBytes) = true → X W args → W.ShapedOpen C.prog →
      a.holds C.prog (lone (Frame.enter C.prog f args .normal) [] W) →
      Calls C.prog f args W fun e W' => ∃ v, e = .returned v ∧ s.post enc C.prog fn apart fresh handsOn again W args v W') :
    ReturnsInHanded a C os f .any (fun w args => (s.pre enc C.prog fn conds apart w args ∧ X w args) ∧ sizedMet enc C.prog fn (OpenSpec.ofChange s) apart w args) (s.post enc C.prog fn apart fresh handsOn again) := by
  refine returnsInHanded_of_calls own started noInit witness ?_
  intro w tape i _ hsh _ hok hpre hholds
  obtain ⟨_, _, _, fn', hfn', _, _, _, _, hval⟩ := hok
  have e : fn' = fn := Option.some.inj (hfn'.symm.trans hfn)
  subst e
  obtain ⟨⟨⟨ds, gs, before, hw, hc⟩, hx⟩, hz⟩ := hpre
  have hw' := DataW.Whole.of_heap (w' := w.forCall tape i) (by rfl) hw
  refine (contract (w.forCall tape i) w.heap.size i.args ds gs before hval hw' hc (hz.weights hw) (hX _ _ _ (by rfl) hx) hsh hholds).mono fun e W' ⟨v, he, hp⟩ => ?_
  subst he
  exact ChangeSpec.post_blind hp
end Go.Proofs.YthjiobmglebmdaaGreatDoor
