/- AsmOrder returns true for every argument whose reading is of bulk at most 1048576; the condition: package variables start as the program's text lays them (the card ties them). -/
import Derived.Test.YtglggojbbenobaaGreatDoorEvW
import Derived.Test.YtglggojbbenobaaGreatDoorEvLOrder
set_option linter.all false
set_option linter.unusedVariables false
namespace Go.Proofs.YtglggojbbenobaaGreatDoor
open Go.ChangeShapes Go.WideShapes Go.ChangeAt Go.RowKit Go.Ev Go.Ev.S

def asmOrderTs : List TypeId := [43, 5, 3]

set_option maxRecDepth 100000 in
theorem asmOrder_lifted (os : Os) (started : os.Started) (H : Type) (enc : TypeId × Value → H) (F : Stop.Interp) :
    ReturnsInHanded {} Tryz.checked os 7 .any ((Rows.OpenSpec.upto Rows.asmOrderSpec).preRow enc Tryz.prog Tryz.f7 Rows.asmOrderUptoRow.domain false Rows.asmOrderUptoRow.laid) (((Rows.OpenSpec.upto Rows.asmOrderSpec).at F).post enc Tryz.prog Tryz.f7 false true false false) := by
  have hw : (DataW.whole enc Tryz.prog ((laidWorld os).forCall (fun _ _ => 0) ⟨#[], #[.agg #[.int .u8 0, .int .i64 0, .int .i64 0, .int .i64 0, .int .i64 0]], []⟩).memory Tryz.f7.params.toList Rows.asmOrderSpec.vars false #[.agg #[.int .u8 0, .int .i64 0, .int .i64 0, .int .i64 0, .int .i64 0]].toList 8).map (fun x => (x.1, x.2.1)) = some ([.agg [.lit (.int .u8 0), .lit (.int .i64 0), .lit (.int .i64 0), .lit (.int .i64 0), .lit (.int .i64 0)]], []) := by kernel_rfl
  obtain ⟨⟨x1, x2, x3⟩, hx, hx1⟩ := Option.map_eq_some_iff.1 hw
  simp only [Prod.mk.injEq] at hx1
  obtain ⟨rfl, rfl⟩ := hx1
  refine returnsInHanded_of_row (C := Tryz.checked) (s := Rows.OpenSpec.upto Rows.asmOrderSpec) own started (by kernel_rfl) Tryz.func7
    (witness_row_atRef (enc := enc) (C := Tryz.checked) false (laidWorld os) #[.agg #[.int .u8 0, .int .i64 0, .int .i64 0, .int .i64 0, .int .i64 0]] rfl (by kernel_rfl) (by kernel_rfl) (by kernel_rfl)
      (OpenSpec.preRow_of_cond 8 hx (by kernel_rfl) (fun k hk => by cases hk; kernel_rfl) (by kernel_rfl) (laid_met os _))) ?_
  intro W base args ds gs before hval hW _ hcond _ hL hsh _
  obtain ⟨m, hG⟩ := glob_ok hL hsh
  have hb : Rows.uptoBulkAll (ds ++ gs) ≤ 1048576 := of_decide_eq_true (hcond _ rfl)
  refine law_calls (C := cfg m) (cfg_ok m) (f := 7) (fn := Tryz.f7) (ts := asmOrderTs) (by kernel_rfl) (fun t ht => by have h : (Tryz.f7.params.toList.all fun t => asmOrderTs.contains t) = true := (by kernel_rfl); simpa using List.all_eq_true.1 h t ht) (tb := 4) (by kernel_rfl) (by kernel_rfl) laidOut
    (fun t ht => by have h : (Tryz.f7.params.toList.all fun t => Tryz.prog.readableRec t && decide (t < Tryz.prog.types.size)) = true := (by kernel_rfl); simpa using List.all_eq_true.1 h t ht) rfl hval hW ?_ hG ?_
  · intro hg
    subst hg
    obtain ⟨p, q, hA, _⟩ := hW
    have hlen := trodAll_len hA
    have hp : Tryz.f7.params.toList.length = 1 := by kernel_rfl
    rw [hp] at hlen
    match ds, hlen with
    | [_], _ => rfl
  · intro hg xs hw hi
    subst hg
    rw [List.append_nil] at hb
    exact asmOrder_ev m xs hw (Nat.le_trans (bulks_le hi) hb)

theorem asmOrder_said : Rows.AsmOrderUptoSaid :=
  OpenClaim.holds_of_cond 7 Tryz.f7 rfl rfl rfl rfl rfl rfl rfl ⟨rfl, rfl, rfl, rfl, rfl⟩ rfl rfl rfl rfl rfl (by kernel_rfl) Tryz.func7 (by kernel_rfl)
    (of_decide_eq_true (by kernel_rfl)) (by unfold Func.isWrapper; first | (rw [if_pos (by decide +kernel)]; kernel_rfl) | (rw [if_neg (by decide +kernel)]; exact ⟨rfl, rfl⟩))
    (fun os started H enc _ F => by rw [OpenClaim.pre_eq_preRow]; exact asmOrder_lifted os started H enc F)

theorem asmOrder_plain (f : FuncId) (fn : Func) (hf : Tryz.pinned.checked.prog.funcNamed "backstep/backsteplaw22.AsmOrder" = some f) (hfn : Tryz.pinned.checked.prog.funcs[f]? = some fn) :
    true = Tryz.pinned.checked.prog.looks [] ∧ ∀ (j : Nat) t, fn.params[j]? = some t → Tryz.pinned.checked.prog.wantsStandIn t = false := by
  obtain rfl : f = 7 := Option.some.inj ((show Tryz.prog.funcNamed "backstep/backsteplaw22.AsmOrder" = some 7 by kernel_rfl).symm.trans hf) |>.symm
  obtain rfl : fn = Tryz.f7 := (Option.some.inj (Tryz.func7.symm.trans hfn)).symm
  refine ⟨by kernel_rfl, fun j t ht => ?_⟩
  have h : (Tryz.f7.params.toList.all fun t => !Tryz.prog.wantsStandIn t) = true := by kernel_rfl
  have := List.all_eq_true.1 h t (Array.mem_toList_iff.2 (Array.mem_of_getElem? ht))
  show Tryz.prog.wantsStandIn t = false
  simpa using this

theorem asmOrder_card : Rows.AsmOrderUptoCardSaid :=
  Claim7.holds_tied_plain_at .later [] _ _ _ _ asmOrder_said (fun _ h => by cases h) (by kernel_rfl) (fun _ h => by cases h) asmOrderUpto_row_tie rfl ⟨rfl, rfl⟩ (by kernel_rfl) rfl asmOrder_plain (by kernel_rfl)
#print axioms asmOrder_card
end Go.Proofs.YtglggojbbenobaaGreatDoor

