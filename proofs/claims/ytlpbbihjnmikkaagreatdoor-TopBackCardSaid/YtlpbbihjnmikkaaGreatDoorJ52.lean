/-
  Joined: TopE
-/
import Derived.Test.YtlpbbihjnmikkaaGreatDoorRows
import Derived.Stop.Joined
import Derived.JoinedOf
import Derived.SevenTiedAt
import Derived.Test.YtlpbbihjnmikkaaGreatDoorCards
import Derived.KernelRfl
namespace Go.Proofs.YtlpbbihjnmikkaaGreatDoor.topBack
set_option maxRecDepth 100000
theorem and2 {a b : Bool} (h : a = true) (k : b = true) : (a && b) = true := by rw [h, k]; rfl
theorem k1 : Rows.topBackRow.wf (OpenSpec.ofChange Rows.topBackSpec) = true := by kernel_rfl
theorem k2 : laidOutB Tryz.prog = true := by kernel_rfl
theorem k3 : mapsRowed Tryz.prog = true := by kernel_rfl
theorem k4 : Tryz.f3.params.all (Tryz.prog.readableRec ·) = true := by kernel_rfl
theorem k5 : namedTie Tryz.prog Rows.topBackRow.named Rows.topBackSpec.vars = true := by kernel_rfl
theorem k6 : (Rows.topBackRow.stops == []) = true := by kernel_rfl
theorem k7 : (Tryz.prog.stops == []) = true := by kernel_rfl
theorem k8 : (Rows.topBackRow.knobs == []) = true := by kernel_rfl
theorem k9 : (Tryz.prog.stopKnobs == []) = true := by kernel_rfl
theorem k10 : (Rows.topBackRow.inPlace == Tryz.prog.inPlace 3) = true := by kernel_rfl
theorem k11 : (Rows.topBackRow.unfollowed == Tryz.prog.unfollowed 3) = true := by kernel_rfl
theorem k12 : (Rows.topBackRow.recurses == Tryz.prog.recurses 3) = true := by kernel_rfl
theorem k13 : (Rows.topBackRow.named == Tryz.prog.varsNamed 3) = true := by kernel_rfl
theorem k14 : (Rows.topBackRow.maps == (Tryz.f3.params.toList ++ Rows.topBackSpec.plain.varTypes Tryz.prog).any (Tryz.prog.mapsRec ·)) = true := by kernel_rfl
theorem k15 : (Rows.topBackRow.ifaces == (Tryz.f3.params.toList ++ Rows.topBackSpec.plain.varTypes Tryz.prog).any (Tryz.prog.ifacesRec ·)) = true := by kernel_rfl
theorem k16 : (Rows.topBackRow.mapsOut == Tryz.prog.mapsAmong Tryz.f3.resultTypes.toList) = true := by kernel_rfl
theorem k17 : (Rows.topBackRow.loops == (Tryz.f3.params.toList ++ Rows.topBackSpec.plain.varTypes Tryz.prog).any (Tryz.prog.loopsFrom ·)) = true := by kernel_rfl
theorem k18 : (Rows.topBackRow.wideKeys == (Tryz.f3.params.toList ++ Rows.topBackSpec.plain.varTypes Tryz.prog ++ Tryz.f3.resultTypes.toList).any (Tryz.prog.wideKeysFrom ·)) = true := by kernel_rfl
theorem k19 : Rows.topBackSpec.vars.all (Tryz.prog.varReadable ·) = true := by kernel_rfl
theorem k20 : Tryz.f3.resultTypes.all (fun t => Tryz.prog.readableRec t && decide (t < Tryz.prog.types.size)) = true := by kernel_rfl
theorem k21 : (Rows.topBackRow.ifacesOut == Tryz.f3.resultTypes.toList.any (Tryz.prog.ifacesRec ·)) = true := by kernel_rfl
theorem k22 : (Rows.topBackRow.loopsOut == Tryz.f3.resultTypes.toList.any (Tryz.prog.loopsFrom ·)) = true := by kernel_rfl
theorem k23 : (Rows.topBackRow.plainKeys == Tryz.prog.plainKeys) = true := by kernel_rfl
theorem k24 : Rows.topBackRow.shortTexts.isNone = true := by kernel_rfl
theorem k25 : Tryz.prog.stopsHeard = true := by kernel_rfl
theorem k26 : Tryz.prog.mayEnter = true := by kernel_rfl
theorem k27 : (Rows.topBackRow.lifted == Tryz.prog.liftsFinal) = true := by kernel_rfl
theorem k28 : (Tryz.prog.make == some Rows.topBackRow.make) = true := by kernel_rfl
theorem k29 : (Rows.topBackRow.kinds == (if Rows.topBackRow.domain.isEmpty then [] else Tryz.f3.params.toList.map fun t => match Tryz.prog.underlying t with | some (.int k) => some k | _ => none)) = true := by kernel_rfl
theorem k30 : (Rows.topBackRow.pinned == Rows.topBackRow.pinnedBy) = true := by kernel_rfl
theorem k31 : (Rows.topBackRow.veiled == (Tryz.f3.params.toList ++ Rows.topBackSpec.plain.varTypes Tryz.prog ++ Tryz.f3.resultTypes.toList).any (Tryz.prog.veiledRec ·)) = true := by kernel_rfl
theorem k32 : Rows.topBackRow.veiledFits Tryz.prog Tryz.f3.params.toList (Tryz.f3.params.toList ++ Rows.topBackSpec.plain.varTypes Tryz.prog ++ Tryz.f3.resultTypes.toList) = true := by kernel_rfl
theorem facts : joinedFacts Tryz.prog 3 Tryz.f3 Rows.topBackSpec Rows.topBackRow = true := by
  unfold joinedFacts
  exact and2 (and2 (and2 (and2 (and2 (and2 (and2 (and2 (and2 (and2 (and2 (and2 (and2 (and2 (and2 (and2 (and2 (and2 (and2 (and2 (and2 (and2 (and2 (and2 (and2 (and2 (and2 (and2 (and2 (and2 (and2 (k1) k2) k3) k4) k5) k6) k7) k8) k9) k10) k11) k12) k13) k14) k15) k16) k17) k18) k19) k20) k21) k22) k23) k24) k25) k26) k27) k28) k29) k30) k31) k32
theorem named3 : Tryz.prog.funcNamed "strongroom/strongroomtop.TopBack" = some 3 := by kernel_rfl
theorem cardWf : Rows.topBackRow.wfByText (OpenSpec.ofChange Rows.topBackSpec) = true := by kernel_rfl
theorem cardMain : Tryz.pinned.checked.prog.mainIs = some ((true, "40df5159dbd39d0aa20bbd0143ec0781329fe260f120dce0ef0a51103bdabe4d").1, (true, "40df5159dbd39d0aa20bbd0143ec0781329fe260f120dce0ef0a51103bdabe4d").2.toList) := by kernel_rfl
theorem cardLooks : true = Tryz.pinned.checked.prog.looks [] := by kernel_rfl
theorem no_goes {P : Program} (h : P.funcs.any Func.goes = false) (f : FuncId) : P.goes f = false := by
  have key : ∀ g : FuncId, (P.funcs[g]?).any Func.goes = false := fun g => by
    cases hg : P.funcs[g]? with
    | none => rfl
    | some fn =>
      obtain ⟨hlt, he⟩ := Array.getElem?_eq_some_iff.1 hg
      rw [Option.any_some]
      cases hb : fn.goes with
      | false => rfl
      | true =>
        have : P.funcs.any Func.goes = true := Array.any_eq_true.2 ⟨g, hlt, by rw [he]; exact hb⟩
        rw [h] at this
        cases this
  unfold Program.goes
  simp only [key, h, Bool.and_false, Bool.or_false]
  simp
theorem no_goesAt {P : Program} (h : P.funcs.any Func.goes = false) (s : String) : P.goesAt .entering s = false := by
  unfold Program.goesAt Program.goesFrom
  cases P.funcNamed s with
  | none => rfl
  | some f => rw [Option.any_some, no_goes h f]; rfl
theorem goesAll : Tryz.prog.funcs.any Func.goes = false := by kernel_rfl
theorem cardGoes : false = Rows.topBackRow.goesBy Tryz.pinned.checked.prog := (no_goesAt goesAll _).symm
theorem stand26 : Tryz.prog.wantsStandIn 26 = false := by kernel_rfl
theorem stand24 : Tryz.prog.wantsStandIn 24 = false := by kernel_rfl
end Go.Proofs.YtlpbbihjnmikkaaGreatDoor.topBack
