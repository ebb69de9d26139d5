/- AsmParses returns true for every argument whose reading is of bulk at most 1048576; the condition: package variables start as the program's text lays them (the card ties them). -/
import Derived.Test.YtglggojbbenobaaGreatDoorEvW
import Derived.Test.YtglggojbbenobaaGreatDoorEvLParses
set_option linter.all false
set_option linter.unusedVariables false
namespace Go.Proofs.YtglggojbbenobaaGreatDoor
open Go.ChangeShapes Go.WideShapes Go.ChangeAt Go.RowKit Go.Ev Go.Ev.S

def asmParsesTs : List TypeId := [9]

set_option maxRecDepth 100000 in
theorem asmParses_lifted (os : Os) (started : os.Started) (H : Type) (enc : TypeId × Value → H) (F : Stop.Interp) :
    ReturnsInHanded {} Tryz.checked os 4 .any ((Rows.OpenSpec.upto Rows.asmParsesSpec).preRow enc Tryz.prog Tryz.f4 Rows.asmParsesUptoRow.domain false Rows.asmParsesUptoRow.laid) (((Rows.OpenSpec.upto Rows.asmParsesSpec).at F).post enc Tryz.prog Tryz.f4 false true false false) := by
  have hw : (DataW.whole enc Tryz.prog ((laidWorld os).forCall (fun _ _ => 0) ⟨#[], #[.string ⟨#[]⟩], []⟩).memory Tryz.f4.params.toList Rows.asmParsesSpec.vars false #[.string ⟨#[]⟩].toList 8).map (fun x => (x.1, x.2.1)) = some ([.lit (.string [])], []) := by kernel_rfl
  obtain ⟨⟨x1, x2, x3⟩, hx, hx1⟩ := Option.map_eq_some_iff.1 hw
  simp only [Prod.mk.injEq] at hx1
  obtain ⟨rfl, rfl⟩ := hx1
  refine returnsInHanded_of_row (C := Tryz.checked) (s := Rows.OpenSpec.upto Rows.asmParsesSpec) own started (by kernel_rfl) Tryz.func4
    (witness_row_atRef (enc := enc) (C := Tryz.checked) false (laidWorld os) #[.string ⟨#[]⟩] rfl (by kernel_rfl) (by kernel_rfl) (by kernel_rfl)
      (OpenSpec.preRow_of_cond 8 hx (by kernel_rfl) (fun k hk => by cases hk; kernel_rfl) (by kernel_rfl) (laid_met os _))) ?_
  intro W base args ds gs before hval hW _ hcond _ hL hsh _
  obtain ⟨m, hG⟩ := glob_ok hL hsh
  have hb : Rows.uptoBulkAll (ds ++ gs) ≤ 1048576 := of_decide_eq_true (hcond _ rfl)
  refine law_calls (C := cfg m) (cfg_ok m) (f := 4) (fn := Tryz.f4) (ts := asmParsesTs) (by kernel_rfl) (fun t ht => by have h : (Tryz.f4.params.toList.all fun t => asmParsesTs.contains t) = true := (by kernel_rfl); simpa using List.all_eq_true.1 h t ht) (tb := 4) (by kernel_rfl) (by kernel_rfl) laidOut
    (fun t ht => by have h : (Tryz.f4.params.toList.all fun t => Tryz.prog.readableRec t && decide (t < Tryz.prog.types.size)) = true := (by kernel_rfl); simpa using List.all_eq_true.1 h t ht) rfl hval hW ?_ hG ?_
  · intro hg
    subst hg
    obtain ⟨p, q, hA, _⟩ := hW
    have hlen := trodAll_len hA
    have hp : Tryz.f4.params.toList.length = 1 := by kernel_rfl
    rw [hp] at hlen
    match ds, hlen with
    | [_], _ => rfl
  · intro hg xs hw hi
    subst hg
    rw [List.append_nil] at hb
    exact asmParses_ev m xs hw (Nat.le_trans (bulks_le hi) hb)

theorem asmParses_said : Rows.AsmParsesUptoSaid :=
  OpenClaim.holds_of_cond 4 Tryz.f4 rfl rfl rfl rfl rfl rfl rfl ⟨rfl, rfl, rfl, rfl, rfl⟩ rfl rfl rfl rfl rfl (by kernel_rfl) Tryz.func4 (by kernel_rfl)
    (of_decide_eq_true (by kernel_rfl)) (by unfold Func.isWrapper; first | (rw [if_pos (by decide +kernel)]; kernel_rfl) | (rw [if_neg (by decide +kernel)]; exact ⟨rfl, rfl⟩))
    (fun os started H enc _ F => by rw [OpenClaim.pre_eq_preRow]; exact asmParses_lifted os started H enc F)

theorem asmParses_plain (f : FuncId) (fn : Func) (hf : Tryz.pinned.checked.prog.funcNamed "backstep/backsteplaw22.AsmParses" = some f) (hfn : Tryz.pinned.checked.prog.funcs[f]? = some fn) :
    true = Tryz.pinned.checked.prog.looks [] ∧ ∀ (j : Nat) t, fn.params[j]? = some t → Tryz.pinned.checked.prog.wantsStandIn t = false := by
  obtain rfl : f = 4 := Option.some.inj ((show Tryz.prog.funcNamed "backstep/backsteplaw22.AsmParses" = some 4 by kernel_rfl).symm.trans hf) |>.symm
  obtain rfl : fn = Tryz.f4 := (Option.some.inj (Tryz.func4.symm.trans hfn)).symm
  refine ⟨by kernel_rfl, fun j t ht => ?_⟩
  have h : (Tryz.f4.params.toList.all fun t => !Tryz.prog.wantsStandIn t) = true := by kernel_rfl
  have := List.all_eq_true.1 h t (Array.mem_toList_iff.2 (Array.mem_of_getElem? ht))
  show Tryz.prog.wantsStandIn t = false
  simpa using this

theorem asmParses_card : Rows.AsmParsesUptoCardSaid :=
  Claim7.holds_tied_plain_at .later [] _ _ _ _ asmParses_said (fun _ h => by cases h) (by kernel_rfl) (fun _ h => by cases h) asmParsesUpto_row_tie rfl ⟨rfl, rfl⟩ (by kernel_rfl) rfl asmParses_plain (by kernel_rfl)
#print axioms asmParses_card
end Go.Proofs.YtglggojbbenobaaGreatDoor

