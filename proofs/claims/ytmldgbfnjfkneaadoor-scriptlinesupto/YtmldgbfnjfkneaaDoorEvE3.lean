/- Library functions as equations; script.valid, script.Valid, script.cut. -/
import Derived.Test.YtmldgbfnjfkneaaDoorEvE2
set_option linter.all false
set_option linter.unusedVariables false
set_option linter.unusedSimpArgs false
namespace Go.Ev.S
open Go.Proofs
variable (m : Int)

theorem e_itoa (n : Int) (h : -9223372036854775808 ≤ n ∧ n ≤ 9223372036854775807) : ev1 (cfg m) 18 [.d (.int .i64 n)] = some (.d (.str (Lib.itoa n))) :=
  ev1_pure (p := pI .i64 (fun n => decide (-9223372036854775808 ≤ n ∧ n ≤ 9223372036854775807)) fun n => .d (.str (itoaF n))) rfl (by simp only [pI]; rw [if_pos ⟨trivial, decide_eq_true h⟩, itoaF_eq h.1 h.2]) rfl
theorem short_of {s : List UInt8} (h : s.length ≤ 4000000000) : short s = true := by simp [short]; omega
theorem e_atoi (s : List UInt8) (h : s.length ≤ 4000000000) : ev1 (cfg m) 46 [.d (.str s)] = some (atoiV s) :=
  ev1_pure (p := p1 short atoiV) rfl (by simp only [p1]; rw [if_pos (short_of h)]) (by unfold atoiV; split <;> rfl)
theorem e_split (s sep : List UInt8) (h : s.length ≤ 4000000000) (h1 : 1 ≤ sep.length) : ev1 (cfg m) 45 [.d (.str s), .d (.str sep)] = some (.d (.sl ((Lib.split s sep).map .str))) :=
  ev1_pure (p := p2 (fun s p => Nat.ble s.length 4294967280 && Nat.ble 1 p.length) fun s p => .d (.sl ((Lib.split s p).map .str))) rfl (by simp only [p2]; rw [if_pos (by simp; omega)]) rfl
theorem e_cutS (s sep : List UInt8) (h : s.length ≤ 4000000000) : ev1 (cfg m) 34 [.d (.str s), .d (.str sep)] = some (.tup [.d (.str (Lib.cut s sep).1), .d (.str (Lib.cut s sep).2.1), .d (.bool (Lib.cut s sep).2.2)]) :=
  ev1_pure (p := p2 (fun s _ => short s) fun s p => .tup [.d (.str (Lib.cut s p).1), .d (.str (Lib.cut s p).2.1), .d (.bool (Lib.cut s p).2.2)]) rfl (by simp only [p2]; rw [if_pos (short_of h)]) rfl
theorem e_count (s : List UInt8) (b : UInt8) : ev1 (cfg m) 19 [.d (.str s), .d (.str [b])] = some (.d (.int .i64 (Lib.countByte s b))) := ev1_pure rfl rfl rfl
theorem e_hasSuffix (s p : List UInt8) (h : s.length ≤ 4000000000) : ev1 (cfg m) 33 [.d (.str s), .d (.str p)] = some (.d (.bool (Lib.hasSuffix s p))) :=
  ev1_pure (p := p2 (fun s _ => short s) fun s p => .d (.bool (Lib.hasSuffix s p))) rfl (by simp only [p2]; rw [if_pos (short_of h)]) rfl
theorem e_indexByte (s : List UInt8) (c : Int) : ev1 (cfg m) 47 [.d (.str s), .d (.int .u8 c)] = some (.d (.int .i64 (Lib.indexByte s c.toNat.toUInt8))) :=
  ev1_pure (p := pSI .u8 (fun _ _ => true) fun s c => .d (.int .i64 (Lib.indexByte s c.toNat.toUInt8))) rfl (by simp only [pSI]; rw [if_pos ⟨trivial, trivial⟩]) rfl
theorem e_find (k : Int) : ev1 (cfg m) 17 [.d (.int .u8 k)] = some (findV k) :=
  ev1_pure (p := pI .u8 (fun _ => true) findV) rfl (by simp only [pI]; rw [if_pos ⟨trivial, trivial⟩]) (by unfold findV; split <;> rfl)
theorem e_shapes : ev1 (cfg m) 25 [] = some (.d shapesD) := ev1_run 3 (by kernel_rfl) rfl

def Cmd.d (c : Cmd) : D := .agg [.int .u8 c.kind, .str c.name, .str c.text, .sl (c.nums.map (.int .i64))]

theorem find_some {k : Int} {r : ShRow} (h : shapeOf k = some r) : findV k = .tup [.d (.str r.word), .d (rowD r), .d (.bool true)] := by
  unfold findV; unfold shapeOf at h; rw [h]
theorem find_none {k : Int} (h : shapeOf k = none) : findV k = .tup [.d (.str []), .d (rowD ⟨[], 0, false, 0, false⟩), .d (.bool false)] := by
  unfold findV; unfold shapeOf at h; rw [h]

theorem e_valid (c : Cmd) (hn : c.name.length ≤ 4000000000) (ht : c.text.length ≤ 4000000000) (hl : c.nums.length ≤ 4000000000) : ev1 (cfg m) 23 [.d c.d] = some (.d (.bool (validC c))) := by
  refine ev1_fn rfl rfl ?_ rfl
  obtain ⟨k, name, text, nums⟩ := c
  unfold validC Cmd.d
  cases hs : shapeOf k with
  | none => simp [s_script_valid, e_find, find_none hs, rowD]
  | some r =>
    obtain ⟨w, k', sn, sm, st⟩ := r
    simp only at hn ht hl
    simp [s_script_valid, e_find, find_some hs, rowD]
    have key : (if sn then isName name else decide (name = [])) = true ∨ (if sn then isName name else decide (name = [])) = false := by cases (if sn then isName name else decide (name = [])) <;> simp
    rcases key with key | key
    · rw [key]
      have e1 : ∀ (x : Int), (4096 < (nums.length : Int)) = ¬ (nums.length ≤ 4096) := fun _ => by rw [eq_iff_iff]; omega
      have e2 : (65536 < (text.length : Int)) = ¬ (text.length ≤ 65536) := by rw [eq_iff_iff]; omega
      have tail : ∀ b : Bool, b = true → True := fun _ _ => trivial
      cases sn
      all_goals simp at key
      all_goals simp [e_Name m name hn, key]
      all_goals by_cases h1 : nums.length ≤ 4096
      all_goals simp [e1 0, h1]
      all_goals by_cases h2 : sm = -1 ∨ (nums.length : Int) = sm
      all_goals (rw [show (decide (sm = -1) || decide ((nums.length : Int) = sm)) = decide (sm = -1 ∨ (nums.length : Int) = sm) by simp])
      all_goals simp only [h2, decide_true, decide_false, Bool.false_and, Bool.true_and]
      all_goals (try (by_cases h3 : sm = -1))
      all_goals simp_all
      all_goals (cases st)
      all_goals simp
      all_goals by_cases h4 : text = []
      all_goals simp [h4]
      all_goals by_cases h5 : text.length ≤ 65536
      all_goals simp [h5, h4, e_hasSuffix m text [10] ht, show (65536 < (text.length : Int)) = ¬ (text.length ≤ 65536) by rw [eq_iff_iff]; omega]
    · cases sn
      all_goals simp at key
      all_goals simp [e_Name m name hn, key]
end Go.Ev.S
