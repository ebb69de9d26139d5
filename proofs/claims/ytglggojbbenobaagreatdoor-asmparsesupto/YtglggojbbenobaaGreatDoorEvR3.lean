/- Machine code: the reference's text. -/
import Derived.Test.YtglggojbbenobaaGreatDoorEvR2
set_option linter.all false
namespace Go.Ev.S
open Go.Proofs Go.Ev.A
variable (m : Int)

set_option maxRecDepth 100000 in
theorem t_rclasses : (List.range' 0 35).map (fun (op : Nat) => (evalFn (cfg m) 5 38 [.d (.int .u8 ((op : Nat) : Int))] []).map Prod.fst) = (List.range' 0 35).map fun (op : Nat) => some (cls2 ((op : Nat) : Int)) := by kernel_rfl
theorem r_classes {op : Int} (h0 : 0 ≤ op) (h1 : op ≤ 255) : ev1 (cfg m) 38 [.d (.int .u8 op)] = some (cls2 op) := by
  by_cases h : op < 35
  · exact byte_tab m (g := cls2) (fun _ => rfl) (t_rclasses m) (by omega) (by omega)
  · have hc : cls op = none := by
      cases hc : cls op with
      | none => rfl
      | some cs => have := cls_some hc; omega
    have hd : cls2 op = .tup [.d (.str []), .d (.bool false)] := by simp [cls2, clsD, hc]
    rw [hd]
    refine ev1_fn rfl rfl ?_ rfl
    have h35 : 35 ≤ op := by omega
    have hw := wrap_i64 op (by omega) (by omega)
    simp [s_backstepref22_Classes, h35, hw]

theorem r_op0 (op a b c d : Int) : ev1 (cfg m) 39 [.d (.agg [.int .u8 op, .int .i64 a, .int .i64 b, .int .i64 c, .int .i64 d]), .d (.int .i64 0)] = some (.d (.int .i64 a)) := by
  refine ev1_fn rfl rfl ?_ rfl; simp [s_backstepref22_Operand]
theorem r_op1 (op a b c d : Int) : ev1 (cfg m) 39 [.d (.agg [.int .u8 op, .int .i64 a, .int .i64 b, .int .i64 c, .int .i64 d]), .d (.int .i64 1)] = some (.d (.int .i64 b)) := by
  refine ev1_fn rfl rfl ?_ rfl; simp [s_backstepref22_Operand]
theorem r_op2 (op a b c d : Int) : ev1 (cfg m) 39 [.d (.agg [.int .u8 op, .int .i64 a, .int .i64 b, .int .i64 c, .int .i64 d]), .d (.int .i64 2)] = some (.d (.int .i64 c)) := by
  refine ev1_fn rfl rfl ?_ rfl; simp [s_backstepref22_Operand]
theorem r_op3 (op a b c d : Int) : ev1 (cfg m) 39 [.d (.agg [.int .u8 op, .int .i64 a, .int .i64 b, .int .i64 c, .int .i64 d]), .d (.int .i64 3)] = some (.d (.int .i64 d)) := by
  refine ev1_fn rfl rfl ?_ rfl; simp [s_backstepref22_Operand]

/-! ## A line -/
def rlSt (i : Ins) (cs : List UInt8) (k : Nat) (s : List UInt8) : St := { env := [(0, .d i.D), (1, .ptr 1000 0 []), (2, .d (.str [])), (3, .d (.str s)), (4, .d (.str cs)), (6, .d (.int .i64 (k : Int)))], cells := [(1000, .var 43 (.d i.D))] }
def rlKs : List Nat := [0, 1, 2, 3, 4, 6]

set_option maxHeartbeats 8000000 in
theorem rl_step (i : Ins) (cs : List UInt8) (hl : cs.length ≤ 4) (k : Nat) (c : UInt8) (x : Int) (s : List UInt8) (hs : s.length ≤ 1000)
    (hk : cs[k]? = some c) (hx : i.args[k]? = some x) (hf : fitsC c x = true) (h64 : i64 x) :
    ∃ σ', evalS (cfg m) s_backstepref22_Line_l0 (rlSt i cs k s) = some (.normal, σ') ∧ σ'.norm rlKs [1000] = rlSt i cs (k + 1) (s ++ 32 :: word c x) := by
  have hw := word_len (c := c) h64
  have hde := r_decimal m h64
  have hil := itoa_len h64.1 h64.2
  obtain ⟨op, a, b, cc, d⟩ := i
  have e114 := byteEq c 114; have e111 := byteEq c 111
  simp at e114 e111
  have b0 : s.length + 2 ≤ 9223372036854775807 := by omega
  have b0' : s.length + 1 ≤ 9223372036854775807 := by omega
  have b1 : s.length + 2 + (Lib.itoa x).length ≤ 9223372036854775807 := by omega
  have b2 : s.length + 1 + (Lib.itoa x).length ≤ 9223372036854775807 := by omega
  have b3 : s.length + 1 + (sym x).length ≤ 9223372036854775807 := by
    have : (sym x).length ≤ 22 := by
      have := word_len (c := 111) h64
      simpa [word] using this
    omega
  by_cases h1 : c = 114
  · subst h1
    have hwd : word 114 x = 114 :: Lib.itoa x := by simp [word]
    rw [hwd]
    rcases shape4 hl with rfl | ⟨c1, rfl⟩ | ⟨c1, c2, rfl⟩ | ⟨c1, c2, c3, rfl⟩ | ⟨c1, c2, c3, c4, rfl⟩
    · simp at hk
    · have hk4 : k = 0 := by have := (List.getElem?_eq_some_iff.1 hk).1; simp at this; omega
      rcases hk4 with rfl <;> simp [Ins.args] at hk hx <;> subst hk <;> subst hx <;>
      simp [s_backstepref22_Line_l0, rlSt, rlKs, Ins.D, r_op0, r_op1, r_op2, r_op3, hde, b0, b0', b1, b2, b3]
    · have hk4 : k = 0 ∨ k = 1 := by have := (List.getElem?_eq_some_iff.1 hk).1; simp at this; omega
      rcases hk4 with rfl | rfl <;> simp [Ins.args] at hk hx <;> subst hk <;> subst hx <;>
      simp [s_backstepref22_Line_l0, rlSt, rlKs, Ins.D, r_op0, r_op1, r_op2, r_op3, hde, b0, b0', b1, b2, b3]
    · have hk4 : k = 0 ∨ k = 1 ∨ k = 2 := by have := (List.getElem?_eq_some_iff.1 hk).1; simp at this; omega
      rcases hk4 with rfl | rfl | rfl <;> simp [Ins.args] at hk hx <;> subst hk <;> subst hx <;>
      simp [s_backstepref22_Line_l0, rlSt, rlKs, Ins.D, r_op0, r_op1, r_op2, r_op3, hde, b0, b0', b1, b2, b3]
    · have hk4 : k = 0 ∨ k = 1 ∨ k = 2 ∨ k = 3 := by have := (List.getElem?_eq_some_iff.1 hk).1; simp at this; omega
      rcases hk4 with rfl | rfl | rfl | rfl <;> simp [Ins.args] at hk hx <;> subst hk <;> subst hx <;>
      simp [s_backstepref22_Line_l0, rlSt, rlKs, Ins.D, r_op0, r_op1, r_op2, r_op3, hde, b0, b0', b1, b2, b3]
  · by_cases h2 : c = 111
    · subst h2
      have hwd : word 111 x = sym x := by simp [word]
      have hfx : 8 ≤ x ∧ x ≤ 23 := by simpa [fitsC] using hf
      have hsy := r_symbol m hfx.1 hfx.2
      have hw8 : IntKind.u8.wrap x = x := IntWalk.u8_in _ (by omega)
      rw [hwd]
      rcases shape4 hl with rfl | ⟨c1, rfl⟩ | ⟨c1, c2, rfl⟩ | ⟨c1, c2, c3, rfl⟩ | ⟨c1, c2, c3, c4, rfl⟩
      · simp at hk
      · have hk4 : k = 0 := by have := (List.getElem?_eq_some_iff.1 hk).1; simp at this; omega
        rcases hk4 with rfl <;> simp [Ins.args] at hk hx <;> subst hk <;> subst hx <;>
        simp [s_backstepref22_Line_l0, rlSt, rlKs, Ins.D, r_op0, r_op1, r_op2, r_op3, hde, b0, b0', b1, b2, b3, hsy, hw8]
      · have hk4 : k = 0 ∨ k = 1 := by have := (List.getElem?_eq_some_iff.1 hk).1; simp at this; omega
        rcases hk4 with rfl | rfl <;> simp [Ins.args] at hk hx <;> subst hk <;> subst hx <;>
        simp [s_backstepref22_Line_l0, rlSt, rlKs, Ins.D, r_op0, r_op1, r_op2, r_op3, hde, b0, b0', b1, b2, b3, hsy, hw8]
      · have hk4 : k = 0 ∨ k = 1 ∨ k = 2 := by have := (List.getElem?_eq_some_iff.1 hk).1; simp at this; omega
        rcases hk4 with rfl | rfl | rfl <;> simp [Ins.args] at hk hx <;> subst hk <;> subst hx <;>
        simp [s_backstepref22_Line_l0, rlSt, rlKs, Ins.D, r_op0, r_op1, r_op2, r_op3, hde, b0, b0', b1, b2, b3, hsy, hw8]
      · have hk4 : k = 0 ∨ k = 1 ∨ k = 2 ∨ k = 3 := by have := (List.getElem?_eq_some_iff.1 hk).1; simp at this; omega
        rcases hk4 with rfl | rfl | rfl | rfl <;> simp [Ins.args] at hk hx <;> subst hk <;> subst hx <;>
        simp [s_backstepref22_Line_l0, rlSt, rlKs, Ins.D, r_op0, r_op1, r_op2, r_op3, hde, b0, b0', b1, b2, b3, hsy, hw8]
    · have hwd : word c x = Lib.itoa x := by simp [word, h1, h2]
      rw [hwd]
      rcases shape4 hl with rfl | ⟨c1, rfl⟩ | ⟨c1, c2, rfl⟩ | ⟨c1, c2, c3, rfl⟩ | ⟨c1, c2, c3, c4, rfl⟩
      · simp at hk
      · have hk4 : k = 0 := by have := (List.getElem?_eq_some_iff.1 hk).1; simp at this; omega
        rcases hk4 with rfl <;> simp [Ins.args] at hk hx <;> subst hk <;> subst hx <;>
        simp [s_backstepref22_Line_l0, rlSt, rlKs, Ins.D, r_op0, r_op1, r_op2, r_op3, hde, b0, b0', b1, b2, b3, e114, e111, h1, h2]
      · have hk4 : k = 0 ∨ k = 1 := by have := (List.getElem?_eq_some_iff.1 hk).1; simp at this; omega
        rcases hk4 with rfl | rfl <;> simp [Ins.args] at hk hx <;> subst hk <;> subst hx <;>
        simp [s_backstepref22_Line_l0, rlSt, rlKs, Ins.D, r_op0, r_op1, r_op2, r_op3, hde, b0, b0', b1, b2, b3, e114, e111, h1, h2]
      · have hk4 : k = 0 ∨ k = 1 ∨ k = 2 := by have := (List.getElem?_eq_some_iff.1 hk).1; simp at this; omega
        rcases hk4 with rfl | rfl | rfl <;> simp [Ins.args] at hk hx <;> subst hk <;> subst hx <;>
        simp [s_backstepref22_Line_l0, rlSt, rlKs, Ins.D, r_op0, r_op1, r_op2, r_op3, hde, b0, b0', b1, b2, b3, e114, e111, h1, h2]
      · have hk4 : k = 0 ∨ k = 1 ∨ k = 2 ∨ k = 3 := by have := (List.getElem?_eq_some_iff.1 hk).1; simp at this; omega
        rcases hk4 with rfl | rfl | rfl | rfl <;> simp [Ins.args] at hk hx <;> subst hk <;> subst hx <;>
        simp [s_backstepref22_Line_l0, rlSt, rlKs, Ins.D, r_op0, r_op1, r_op2, r_op3, hde, b0, b0', b1, b2, b3, e114, e111, h1, h2]

set_option maxHeartbeats 2000000 in
theorem r_line {i : Ins} (hf : i.fits) (hv : validI i = true) : ev1 (cfg m) 32 [.d i.D] = some (.d (.str (lineI i))) := by
  obtain ⟨cs, hc, ha, _, hd⟩ := valid_inv hv
  have hl := cls_len hc
  have h1 := mnem_len hc
  have hargs : i.args.length = 4 := rfl
  have hwl : (wordsA cs i.args).length = cs.length := wordsA_len (by omega)
  have h := loopS_upto (C := cfg m) (c := s_backstepref22_Line_l0) (ks := rlKs) (ts := [1000]) (fun k => rlSt i cs k (mnem i.op ++ tailA ((wordsA cs i.args).take k))) cs.length (x := .exit 0)
    (σ := { rlSt i cs cs.length (lineI i) with env := (rlSt i cs cs.length (lineI i)).env ++ [(20, .d (.bool false))] }) (by simp)
    (fun k hk => by
      have hk2 : cs[k]? = some cs[k] := List.getElem?_eq_getElem hk
      have hk3 : i.args[k]? = some i.args[k] := List.getElem?_eq_getElem (by omega)
      have hle := tailA_len ((wordsA cs i.args).take k) (fun w hw => wordsA_mem (fits_args hf) w (List.mem_of_mem_take hw))
      simp only [List.length_take] at hle
      obtain ⟨σ', g1, g2⟩ := rl_step m i cs hl k cs[k] i.args[k] (mnem i.op ++ tailA ((wordsA cs i.args).take k)) (by simp; omega) hk2 hk3 (argsOk_get ha hk2 hk3) (fits_args hf _ (List.getElem_mem _))
      refine ⟨σ', g1, ?_⟩
      rw [g2]
      congr 1
      rw [List.take_add_one, wordsA_get hk2 hk3, tailA_app]
      simp [tailA])
    (by
      have e : (wordsA cs i.args).take cs.length = wordsA cs i.args := by rw [← hwl, List.take_length]
      rw [e]
      simp [s_backstepref22_Line_l0, rlSt, lineI, hd])
  refine ev1_fn rfl rfl ?_ rfl
  have hcs := cls_some hc
  have e0 := r_classes m (op := i.op) (by omega) (by omega)
  unfold cls2 at e0
  rw [hc, hd] at e0
  have e1 := r_mnem m (op := i.op) (by omega) (by omega)
  simp [rlSt, rlKs, tailA, Ins.D] at h
  simp only [Ins.D] at ⊢
  simp at e0
  simp [s_backstepref22_Line, e0, e1, h]

/-! ## Check and Format -/
def rkSt (l : List Ins) (i : Nat) : St := { env := [(0, .d (.sl (l.map Ins.D))), (2, .d (.int .i64 0)), (6, .d (.bool false)), (3, .d (.int .i64 (i : Int)))], cells := [] }
theorem r_check (l : List Ins) (hl : l.length ≤ 65536) (hf : ∀ i ∈ l, i.fits) : ev1 (cfg m) 31 [.d (.sl (l.map Ins.D))] = some (.d (.int .i64 (if l.all validI then 0 else 3))) := by
  refine ev1_fn rfl rfl ?_ rfl
  have h := loopS_all (C := cfg m) (c := s_backstepref22_Check_l0) (ks := [0, 2, 6, 3]) (ts := []) (l := l) (p := validI) (rkSt l) (x := .exit 0) (by simp)
    (fun i hi hv => by
      have hw := wrap_i64 ((i : Int) + 1) (by omega) (by omega)
      have hV := r_Valid m l[i] (hf _ (List.getElem_mem hi))
      rw [hv] at hV
      simp [s_backstepref22_Check_l0, rkSt, hi, hV, hw])
    (by simp [s_backstepref22_Check_l0, rkSt]; rfl) (Q := fun y σ => y = .ret ∧ ∃ cs, result [.tmp 2] σ = some (.d (.int .i64 3), cs))
    (fun i hi hv => by
      have hV := r_Valid m l[i] (hf _ (List.getElem_mem hi))
      rw [hv] at hV
      have : ∃ σ cs, evalS (cfg m) s_backstepref22_Check_l0 (rkSt l i) = some (.ret, σ) ∧ result [.tmp 2] σ = some (.d (.int .i64 3), cs) := by simp [s_backstepref22_Check_l0, rkSt, hi, hV]
      obtain ⟨σ, cs, h1, h2⟩ := this
      exact ⟨.ret, σ, by simp, h1, rfl, cs, h2⟩)
  have hgt : ¬ (65536 < (l.length : Int)) := by omega
  have hgt2 : ¬ (65536 < l.length) := by omega
  cases hall : l.all validI with
  | true =>
    rw [if_pos hall] at h
    simp [rkSt] at h
    simp [s_backstepref22_Check, h, hgt, hgt2]
  | false =>
    rw [if_neg (by simp [hall])] at h
    obtain ⟨y, σ, h1, rfl, cs, h2⟩ := h
    simp [rkSt] at h1
    simp [s_backstepref22_Check, h1, hgt, hgt2, -result]
    rw [h2]; simp

def rfSt (l : List Ins) (i : Nat) : St := { env := [(0, .d (.sl (l.map Ins.D))), (2, .d (.str [])), (3, .d (.int .i64 0)), (4, .d (.int .i64 0)), (10, .d (.bool false)), (5, .d (.str (textI (l.take i)))), (6, .d (.int .i64 (i : Int)))], cells := [] }
set_option maxHeartbeats 2000000 in
theorem r_Format (l : List Ins) (hl : l.length ≤ 65536) (hf : ∀ i ∈ l, i.fits) : ev1 (cfg m) 14 [.d (.sl (l.map Ins.D))] = some (.tup [.d (.str (if l.all validI then textI l else [])), .d (.int .i64 (if l.all validI then 0 else 3))]) := by
  refine ev1_fn rfl rfl ?_ rfl
  have hc := r_check m l hl hf
  cases hall : l.all validI with
  | false =>
    rw [hall] at hc
    simp at hc
    simp [s_backstepref22_Format, hc]
  | true =>
    rw [hall] at hc
    simp at hc
    have hv : ∀ i ∈ l, validI i = true := List.all_eq_true.1 hall
    have h := loopS_upto (C := cfg m) (c := s_backstepref22_Format_l0) (ks := [0, 2, 3, 4, 10, 5, 6]) (ts := []) (rfSt l) l.length (x := .exit 0)
      (σ := { rfSt l l.length with env := (rfSt l l.length).env ++ [(15, .d (.bool false))] }) (by simp)
      (fun k hk => by
        have hlen := textI_len (l.take k) (fun i hi => ⟨hf i (List.mem_of_mem_take hi), hv i (List.mem_of_mem_take hi)⟩)
        simp only [List.length_take] at hlen
        have hL := r_line m (hf _ (List.getElem_mem hk)) (hv _ (List.getElem_mem hk))
        have hll := line_len (hf _ (List.getElem_mem hk)) (hv _ (List.getElem_mem hk))
        have hw := wrap_i64 ((k : Int) + 1) (by omega) (by omega)
        have ht : l.take (k + 1) = l.take k ++ [l[k]] := by rw [List.take_add_one]; simp [hk]
        have b1 : (textI (l.take k)).length + (lineI l[k]).length ≤ 9223372036854775807 := by omega
        have b2 : (textI (l.take k)).length + (lineI l[k]).length + 1 ≤ 9223372036854775807 := by omega
        unfold rfSt
        rw [ht, textI_snoc]
        generalize textI (l.take k) = T at *
        simp [s_backstepref22_Format_l0, hk, hL, hw, b1, b2])
      (by simp [s_backstepref22_Format_l0, rfSt])
    simp only [rfSt, List.take_zero, List.take_length] at h
    simp [textI] at h
    simp [s_backstepref22_Format, hc, h, textI]
end Go.Ev.S
