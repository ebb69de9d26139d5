/- Machine code: the tables that the program and the reference look up, and the example. -/
import Derived.Test.YtglggojbbenobaaGreatDoorEvC1
import Derived.Test.YtglggojbbenobaaGreatDoorKC
import Derived.Test.YtglggojbbenobaaGreatDoorKE
import Derived.IntWalk
set_option linter.all false
namespace Go.Ev.S
open Go.Proofs Go.Ev.A
variable (m : Int)

theorem wrap_i64 (n : Int) (h1 : -9223372036854775808 ≤ n) (h2 : n ≤ 9223372036854775807) : IntKind.i64.wrap n = n := IntWalk.i64_in _ ⟨h1, h2⟩

/-- A function of a byte, looked up. -/
theorem byte_tab {f : FuncId} {n a b : Nat} {g : Int → V} (hg : ∀ op, (g op).refs = [])
    (h : (List.range' a b).map (fun (op : Nat) => (evalFn (cfg m) n f [.d (.int .u8 ((op : Nat) : Int))] []).map Prod.fst) = (List.range' a b).map fun (op : Nat) => some (g ((op : Nat) : Int))) {op : Int} (h0 : a ≤ op) (h1 : op < a + b) :
    ev1 (cfg m) f [.d (.int .u8 op)] = some (g op) := by
  obtain ⟨k, rfl⟩ : ∃ k : Nat, op = (k : Int) := ⟨op.toNat, by omega⟩
  have := congrArg (fun l => l[k - a]?) h
  simp only [List.getElem?_map, List.getElem?_range' (show k - a < b by omega), Option.map_some, Option.some.injEq] at this
  rw [show a + 1 * (k - a) = k by omega] at this
  exact ev1_run n this (hg _)

set_option maxRecDepth 100000 in
theorem awake_val : (evalFn (cfg m) 300 12 [] []).map Prod.fst = some (.d (.bool true)) := by kernel_rfl
theorem e_awake : ev1 (cfg m) 12 [] = some (.d (.bool true)) := ev1_run 300 (awake_val m) rfl

/-! ## The program's table -/
def invTab : List Int := [0, 2, 1, 3, 5, 4, 6, 7, 8, 9, 10, 11, 13, 12, 14, 15, 16, 18, 17, 20, 19, 21, 25, 26, 27, 22, 23, 24, 29, 28, 30, 31, 33, 32, 34]
def invM (op : Int) : Int := (invTab[op.toNat]?).getD op
def rowK : List D := (List.range' 0 35).map fun (k : Nat) => .int .u8 (k : Int)
def rowV : List D := (List.range' 0 35).map fun (k : Nat) => .agg [.str (mnem (k : Int)), .str (clsD (k : Int)), .int .u8 (invM (k : Int))]
set_option maxRecDepth 100000 in
theorem rows_val : (evalFn (cfg m) 90 45 [] []).map Prod.fst = some (.d (.map rowK rowV)) := by kernel_rfl
theorem e_rows : ev1 (cfg m) 45 [] = some (.d (.map rowK rowV)) := ev1_run 90 (rows_val m) rfl

theorem keyAt_range (x : Int) : ∀ (n s : Nat), keyAt (.int .u8 x) ((List.range' s n).map fun (k : Nat) => .int .u8 (k : Int)) = some (if (s : Int) ≤ x ∧ x < s + n then some (x - s).toNat else none)
  | 0, s => by
    have : ¬ ((s : Int) ≤ x ∧ x < s + (0 : Nat)) := by omega
    simp [keyAt]
  | n + 1, s => by
    rw [List.range'_succ, List.map_cons]
    simp only [keyAt, keyEq, if_true]
    by_cases h : x = (s : Int)
    · subst h
      have : (s : Int) ≤ s ∧ (s : Int) < s + (n + 1 : Nat) := by omega
      simp only [decide_true, if_pos this]
      simp
    · rw [keyAt_range x n (s + 1)]
      simp only [h, decide_false]
      by_cases h2 : (s : Int) ≤ x ∧ x < s + (n + 1 : Nat)
      · rw [if_pos h2, if_pos (by omega)]
        simp; omega
      · rw [if_neg h2, if_neg (by omega)]

theorem keyAt_some {op : Int} {cs : List UInt8} (h : cls op = some cs) : keyAt (.int .u8 op) rowK = some (some op.toNat) := by
  have := cls_some h
  unfold rowK
  rw [keyAt_range, if_pos (by omega)]
  simp
theorem keyAt_none {op : Int} (h : cls op = none) : keyAt (.int .u8 op) rowK = some none := by
  unfold rowK
  rw [keyAt_range, if_neg]
  intro h2
  obtain ⟨cs, hc⟩ := cls_of (op := op) (by omega) (by omega)
  rw [hc] at h; cases h
theorem rowV_get {op : Int} {cs : List UInt8} (h : cls op = some cs) : rowV[op.toNat]? = some (.agg [.str (mnem op), .str cs, .int .u8 (invM op)]) := by
  have h1 := cls_some h
  have h2 : ((op.toNat : Nat) : Int) = op := by omega
  unfold rowV
  rw [List.getElem?_map, List.getElem?_range' h1.2.2]
  simp only [Option.map_some, Nat.zero_add, Nat.one_mul, h2]
  simp [clsD, h]

theorem e_mnem {op : Int} {cs : List UInt8} (h : cls op = some cs) : ev1 (cfg m) 23 [.d (.int .u8 op)] = some (.d (.str (mnem op))) := by
  refine ev1_fn rfl rfl ?_ rfl
  simp [s_isa_Mnemonic, e_rows, keyAt_some h, rowV_get h]
theorem e_count {op : Int} {cs : List UInt8} (h : cls op = some cs) : ev1 (cfg m) 22 [.d (.int .u8 op)] = some (.d (.int .i64 cs.length)) := by
  refine ev1_fn rfl rfl ?_ rfl
  simp [s_isa_Operands, e_rows, keyAt_some h, rowV_get h]

/-! ## The other tables, by the kernel -/
set_option maxRecDepth 100000 in
theorem t_classes : (List.range' 0 35).map (fun (op : Nat) => (evalFn (cfg m) 5 35 [.d (.int .u8 ((op : Nat) : Int))] []).map Prod.fst) = (List.range' 0 35).map fun (op : Nat) => some (.d (.str (clsD ((op : Nat) : Int)))) := by kernel_rfl
theorem cls_big {op : Int} (h : ¬ op < 35) : cls op = none := by
  cases hc : cls op with
  | none => rfl
  | some cs => have := cls_some hc; omega
set_option maxHeartbeats 2000000 in
theorem e_classes {op : Int} (h0 : 0 ≤ op) (h1 : op ≤ 255) : ev1 (cfg m) 35 [.d (.int .u8 op)] = some (.d (.str (clsD op))) := by
  by_cases h : op < 35
  · exact byte_tab m (g := fun op => .d (.str (clsD op))) (fun _ => rfl) (t_classes m) (by omega) (by omega)
  · have hne : ∀ k : Int, k < 35 → op ≠ k := fun k hk e => by omega
    have hd : clsD op = [] := by simp [clsD, cls_big h]
    rw [hd]
    refine ev1_fn rfl rfl ?_ rfl
    simp [s_asm_classes, hne 0 (by decide), hne 1 (by decide), hne 2 (by decide), hne 3 (by decide), hne 4 (by decide), hne 5 (by decide), hne 6 (by decide), hne 7 (by decide), hne 8 (by decide), hne 9 (by decide), hne 10 (by decide), hne 11 (by decide), hne 12 (by decide), hne 13 (by decide), hne 14 (by decide), hne 15 (by decide), hne 16 (by decide), hne 17 (by decide), hne 18 (by decide), hne 19 (by decide), hne 20 (by decide), hne 21 (by decide), hne 22 (by decide), hne 23 (by decide), hne 24 (by decide), hne 25 (by decide), hne 26 (by decide), hne 27 (by decide), hne 28 (by decide), hne 29 (by decide), hne 30 (by decide), hne 31 (by decide), hne 32 (by decide), hne 33 (by decide), hne 34 (by decide)]
def cls2 (op : Int) : V := .tup [.d (.str (clsD op)), .d (.bool (cls op).isSome)]
set_option maxRecDepth 100000 in
theorem t_shape : (List.range' 0 35).map (fun (op : Nat) => (evalFn (cfg m) 5 61 [.d (.int .u8 ((op : Nat) : Int))] []).map Prod.fst) = (List.range' 0 35).map fun (op : Nat) => some (cls2 ((op : Nat) : Int)) := by kernel_rfl
set_option maxHeartbeats 2000000 in
theorem e_shape {op : Int} (h0 : 0 ≤ op) (h1 : op ≤ 255) : ev1 (cfg m) 61 [.d (.int .u8 op)] = some (cls2 op) := by
  by_cases h : op < 35
  · exact byte_tab m (g := cls2) (fun _ => rfl) (t_shape m) (by omega) (by omega)
  · have hne : ∀ k : Int, k < 35 → op ≠ k := fun k hk e => by omega
    have hd : cls2 op = .tup [.d (.str []), .d (.bool false)] := by simp [cls2, clsD, cls_big h]
    rw [hd]
    refine ev1_fn rfl rfl ?_ rfl
    simp [s_backstepref21_Shape, hne 0 (by decide), hne 1 (by decide), hne 2 (by decide), hne 3 (by decide), hne 4 (by decide), hne 5 (by decide), hne 6 (by decide), hne 7 (by decide), hne 8 (by decide), hne 9 (by decide), hne 10 (by decide), hne 11 (by decide), hne 12 (by decide), hne 13 (by decide), hne 14 (by decide), hne 15 (by decide), hne 16 (by decide), hne 17 (by decide), hne 18 (by decide), hne 19 (by decide), hne 20 (by decide), hne 21 (by decide), hne 22 (by decide), hne 23 (by decide), hne 24 (by decide), hne 25 (by decide), hne 26 (by decide), hne 27 (by decide), hne 28 (by decide), hne 29 (by decide), hne 30 (by decide), hne 31 (by decide), hne 32 (by decide), hne 33 (by decide), hne 34 (by decide)]
set_option maxRecDepth 100000 in
theorem t_symbol : (List.range' 8 16).map (fun (op : Nat) => (evalFn (cfg m) 30 68 [.d (.int .u8 ((op : Nat) : Int))] []).map Prod.fst) = (List.range' 8 16).map fun (op : Nat) => some (.d (.str (sym ((op : Nat) : Int)))) := by kernel_rfl
theorem e_symbol {op : Int} (h0 : 8 ≤ op) (h1 : op ≤ 23) : ev1 (cfg m) 68 [.d (.int .u8 op)] = some (.d (.str (sym op))) := byte_tab m (g := fun op => .d (.str (sym op))) (fun _ => rfl) (t_symbol m) (by omega) (by omega)
set_option maxRecDepth 100000 in
theorem t_rsymbol : (List.range' 8 16).map (fun (op : Nat) => (evalFn (cfg m) 30 56 [.d (.int .u8 ((op : Nat) : Int))] []).map Prod.fst) = (List.range' 8 16).map fun (op : Nat) => some (.d (.str (sym ((op : Nat) : Int)))) := by kernel_rfl
theorem r_symbol {op : Int} (h0 : 8 ≤ op) (h1 : op ≤ 23) : ev1 (cfg m) 56 [.d (.int .u8 op)] = some (.d (.str (sym op))) := byte_tab m (g := fun op => .d (.str (sym op))) (fun _ => rfl) (t_rsymbol m) (by omega) (by omega)
set_option maxRecDepth 100000 in
theorem t_rmnem : (List.range' 0 35).map (fun (op : Nat) => (evalFn (cfg m) 30 54 [.d (.int .u8 ((op : Nat) : Int))] []).map Prod.fst) = (List.range' 0 35).map fun (op : Nat) => some (.d (.str (mnem ((op : Nat) : Int)))) := by kernel_rfl
theorem r_mnem {op : Int} (h0 : 0 ≤ op) (h1 : op ≤ 34) : ev1 (cfg m) 54 [.d (.int .u8 op)] = some (.d (.str (mnem op))) := byte_tab m (g := fun op => .d (.str (mnem op))) (fun _ => rfl) (t_rmnem m) (by omega) (by omega)
end Go.Ev.S
