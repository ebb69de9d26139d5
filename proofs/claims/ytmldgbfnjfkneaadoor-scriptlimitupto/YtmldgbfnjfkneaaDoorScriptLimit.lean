/- ScriptLimit returns true for every argument whose reading is of bulk at most 1048576; the condition: package variables start as the program's text lays them (the card ties them). -/
import Derived.Test.YtmldgbfnjfkneaaDoorEvW
import Derived.Test.YtmldgbfnjfkneaaDoorEvLLimit
set_option linter.all false
set_option linter.unusedVariables false
namespace Go.Proofs.YtmldgbfnjfkneaaDoor
open Go.ChangeShapes Go.WideShapes Go.ChangeAt Go.RowKit Go.Ev Go.Ev.S

def scriptLimitTs : List TypeId := [5]

set_option maxRecDepth 100000 in
theorem scriptLimit_lifted (os : Os) (started : os.Started) (H : Type) (enc : TypeId × Value → H) (F : Stop.Interp) :
    ReturnsInHanded {} Tryd.checked os 8 .any ((Rows.OpenSpec.upto Rows.scriptLimitSpec).preRow enc Tryd.prog Tryd.f8 Rows.scriptLimitUptoRow.domain false Rows.scriptLimitUptoRow.laid) (((Rows.OpenSpec.upto Rows.scriptLimitSpec).at F).post enc Tryd.prog Tryd.f8 false true false false) := by
  have hw : (DataW.whole enc Tryd.prog ((laidWorld os).forCall (fun _ _ => 0) ⟨#[], #[.int .u8 0], []⟩).memory Tryd.f8.params.toList Rows.scriptLimitSpec.vars false #[.int .u8 0].toList 8).map (fun x => (x.1, x.2.1)) = some ([.lit (.int .u8 0)], []) := by kernel_rfl
  obtain ⟨⟨x1, x2, x3⟩, hx, hx1⟩ := Option.map_eq_some_iff.1 hw
  simp only [Prod.mk.injEq] at hx1
  obtain ⟨rfl, rfl⟩ := hx1
  refine returnsInHanded_of_row (C := Tryd.checked) (s := Rows.OpenSpec.upto Rows.scriptLimitSpec) own started (by kernel_rfl) Tryd.func8
    (witness_row_atRef (enc := enc) (C := Tryd.checked) false (laidWorld os) #[.int .u8 0] rfl (by kernel_rfl) (by kernel_rfl) (by kernel_rfl)
      (OpenSpec.preRow_of_cond 8 hx (by kernel_rfl) (fun k hk => by cases hk; kernel_rfl) (by kernel_rfl) (laid_met os _))) ?_
  intro W base args ds gs before hval hW _ hcond _ hL hsh _
  obtain ⟨m, hG⟩ := glob_ok hL hsh
  have hb : Rows.uptoBulkAll (ds ++ gs) ≤ 1048576 := of_decide_eq_true (hcond _ rfl)
  refine law_calls (C := cfg m) (cfg_ok m) (f := 8) (fn := Tryd.f8) (ts := scriptLimitTs) (by kernel_rfl) (fun t ht => by have h : (Tryd.f8.params.toList.all fun t => scriptLimitTs.contains t) = true := (by kernel_rfl); simpa using List.all_eq_true.1 h t ht) (tb := 4) (by kernel_rfl) (by kernel_rfl) laidOut
    (fun t ht => by have h : (Tryd.f8.params.toList.all fun t => Tryd.prog.readableRec t && decide (t < Tryd.prog.types.size)) = true := (by kernel_rfl); simpa using List.all_eq_true.1 h t ht) rfl hval hW ?_ hG ?_
  · intro hg
    subst hg
    obtain ⟨p, q, hA, _⟩ := hW
    have hlen := trodAll_len hA
    have hp : Tryd.f8.params.toList.length = 1 := by kernel_rfl
    rw [hp] at hlen
    match ds, hlen with
    | [_], _ => rfl
  · intro hg xs hw hi
    subst hg
    rw [List.append_nil] at hb
    exact scriptLimit_ev m xs hw (Nat.le_trans (bulks_le hi) hb)

theorem scriptLimit_said : Rows.ScriptLimitUptoSaid :=
  OpenClaim.holds_of_cond 8 Tryd.f8 rfl rfl rfl rfl rfl rfl rfl ⟨rfl, rfl, rfl, rfl, rfl⟩ rfl rfl rfl rfl rfl (by kernel_rfl) Tryd.func8 (by kernel_rfl)
    (of_decide_eq_true (by kernel_rfl)) (by unfold Func.isWrapper; first | (rw [if_pos (by decide +kernel)]; kernel_rfl) | (rw [if_neg (by decide +kernel)]; exact ⟨rfl, rfl⟩))
    (fun os started H enc _ F => by rw [OpenClaim.pre_eq_preRow]; exact scriptLimit_lifted os started H enc F)

theorem scriptLimit_plain (f : FuncId) (fn : Func) (hf : Tryd.pinned.checked.prog.funcNamed "backstep/backsteplaw51.ScriptLimit" = some f) (hfn : Tryd.pinned.checked.prog.funcs[f]? = some fn) :
    true = Tryd.pinned.checked.prog.looks [] ∧ ∀ (j : Nat) t, fn.params[j]? = some t → Tryd.pinned.checked.prog.wantsStandIn t = false := by
  obtain rfl : f = 8 := Option.some.inj ((show Tryd.prog.funcNamed "backstep/backsteplaw51.ScriptLimit" = some 8 by kernel_rfl).symm.trans hf) |>.symm
  obtain rfl : fn = Tryd.f8 := (Option.some.inj (Tryd.func8.symm.trans hfn)).symm
  refine ⟨by kernel_rfl, fun j t ht => ?_⟩
  have h : (Tryd.f8.params.toList.all fun t => !Tryd.prog.wantsStandIn t) = true := by kernel_rfl
  have := List.all_eq_true.1 h t (Array.mem_toList_iff.2 (Array.mem_of_getElem? ht))
  show Tryd.prog.wantsStandIn t = false
  simpa using this

theorem scriptLimit_card : Rows.ScriptLimitUptoCardSaid :=
  Claim7.holds_tied_plain_at .later [] _ _ _ _ scriptLimit_said (fun _ h => by cases h) (by kernel_rfl) (fun _ h => by cases h) scriptLimitUpto_row_tie rfl ⟨rfl, rfl⟩ (by kernel_rfl) rfl scriptLimit_plain (by kernel_rfl)
#print axioms scriptLimit_card
end Go.Proofs.YtmldgbfnjfkneaaDoor

