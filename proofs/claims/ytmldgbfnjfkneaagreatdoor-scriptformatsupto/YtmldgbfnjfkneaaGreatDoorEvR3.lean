/- The reference's Valid, Text, Format. -/
import Derived.Test.YtmldgbfnjfkneaaGreatDoorEvR2
set_option linter.all false
set_option linter.unusedVariables false
set_option linter.unusedSimpArgs false
namespace Go.Ev.S
open Go.Proofs
variable (m : Int)

theorem r_Valid (l : List Cmd) (hl : l.length ≤ 4000000000) (hf : ∀ c ∈ l, c.fits) (hc : ∀ c ∈ l, c.small) : ev1 (cfg m) 9 [.d (.sl (l.map Cmd.d))] = some (.d (.bool (validL l))) := by
  refine ev1_fn rfl rfl ?_ rfl
  have hv : ∀ i (h : i < l.length), ev1 (cfg m) 22 [.d (l[i]).d] = some (.d (.bool (validC l[i]))) := fun i h => r_One m _ (hf _ (List.getElem_mem h)) (hc _ (List.getElem_mem h))
  have key : ∀ k i, i + k = l.length →
      ((l.drop i).all validC = true ∧ loopS (cfg m) s_backstepref51_Valid_l0 [0, 2, 3] [] { env := [(0, .d (.sl (l.map Cmd.d))), (2, .d (.bool false)), (3, .d (.int .i64 (i : Int)))], cells := [] } =
        some (.exit 0, { env := [(0, .d (.sl (l.map Cmd.d))), (2, .d (.bool false)), (3, .d (.int .i64 (l.length : Int))), (7, .d (.bool false))], cells := [] })) ∨
      ((l.drop i).all validC = false ∧ ∃ j : Nat, loopS (cfg m) s_backstepref51_Valid_l0 [0, 2, 3] [] { env := [(0, .d (.sl (l.map Cmd.d))), (2, .d (.bool false)), (3, .d (.int .i64 (i : Int)))], cells := [] } =
        some (.ret, { env := [(0, .d (.sl (l.map Cmd.d))), (2, .d (.bool false)), (3, .d (.int .i64 (j : Int))), (7, .d (.bool true)), (15, .d (.bool true))], cells := [] })) := by
    intro k
    induction k with
    | zero =>
      intro i hi
      have : i = l.length := by omega
      subst this
      left
      refine ⟨by simp, loopS_exit ?_⟩
      simp [s_backstepref51_Valid_l0]
    | succ k ih =>
      intro i hi
      have hlt : i < l.length := by omega
      have hd : l.drop i = l[i] :: l.drop (i + 1) := List.drop_eq_getElem_cons hlt
      have hw := wrap_i64 ((i : Int) + 1) (by omega) (by omega)
      have hvi := hv i hlt
      cases hq : validC l[i] with
      | false =>
        right
        rw [hq] at hvi
        refine ⟨by rw [hd, List.all_cons, hq]; rfl, i, loopS_ret ?_⟩
        simp [s_backstepref51_Valid_l0, hlt, hvi]
      | true =>
        rw [hq] at hvi
        have hstep : evalS (cfg m) s_backstepref51_Valid_l0 { env := [(0, .d (.sl (l.map Cmd.d))), (2, .d (.bool false)), (3, .d (.int .i64 (i : Int)))], cells := [] } =
            some (.normal, { env := [(0, .d (.sl (l.map Cmd.d))), (2, .d (.bool false)), (3, .d (.int .i64 ((i + 1 : Nat) : Int))), (7, .d (.bool true)), (15, .d (.bool false))], cells := [] }) := by
          simp [s_backstepref51_Valid_l0, hlt, hvi, hw]
        have hcon : (l.drop i).all validC = (l.drop (i + 1)).all validC := by rw [hd, List.all_cons, hq]; rfl
        rcases ih (i + 1) (by omega) with ⟨h1, h2⟩ | ⟨h1, j, h2⟩
        · exact .inl ⟨by rw [hcon]; exact h1, loopS_step hstep (by simpa using h2)⟩
        · exact .inr ⟨by rw [hcon]; exact h1, j, loopS_step hstep (by simpa using h2)⟩
  unfold validL
  rcases key l.length 0 (by omega) with ⟨h1, h2⟩ | ⟨h1, j, h2⟩
  · rw [List.drop_zero] at h1
    simp at h2
    rw [h1]
    have e : ((l.length : Int) ≤ 1000) = (l.length ≤ 1000) := by rw [eq_iff_iff]; omega
    simp [s_backstepref51_Valid, h2, e]
  · rw [List.drop_zero] at h1
    simp at h2
    rw [h1]
    simp [s_backstepref51_Valid, h2]

theorem join_flat (c : UInt8) : ∀ (w : List UInt8) (ws : List (List UInt8)), Lib.join (w :: ws) [c] = w ++ (ws.map (c :: ·)).flatten
  | w, [] => by simp [join_one]
  | w, v :: ws => by rw [join_cons, join_flat c v ws]; simp

def numsTxt (ns : List Int) : List UInt8 := (ns.map fun n => 32 :: Lib.itoa n).flatten
theorem numsTxt_take (ns : List Int) (i : Nat) (h : i < ns.length) : numsTxt (ns.take (i + 1)) = numsTxt (ns.take i) ++ (32 :: Lib.itoa ns[i]) := by
  unfold numsTxt; rw [List.take_add_one, List.map_append, List.flatten_append]; simp [h]
theorem numsTxt_len : ∀ (ns : List Int), (∀ n ∈ ns, -9223372036854775808 ≤ n ∧ n ≤ 9223372036854775807) → (numsTxt ns).length ≤ 22 * ns.length
  | [], _ => by simp [numsTxt]
  | n :: ns, h => by
    have h1 := numsTxt_len ns (fun x hx => h x (by simp [hx]))
    have h2 := itoa_len (h n (by simp)).1 (h n (by simp)).2
    unfold numsTxt at *; simp at *; omega

theorem fmt1_txt {c : Cmd} {r : ShRow} (h : shapeOf c.kind = some r) : fmt1 c = r.word ++ (if r.name then 32 :: c.name else []) ++ numsTxt c.nums ++ (if r.text then 32 :: Lib.itoa (Lib.countByte c.text 10) else []) ++ [10] ++ c.text := by
  unfold fmt1
  rw [h]
  dsimp only
  unfold wordsOf
  simp only [List.append_assoc, List.cons_append, List.nil_append, join_flat]
  unfold numsTxt
  cases r.name <;> cases r.text <;> simp [List.map_map, Function.comp_def]

theorem r_Text (c : Cmd) (hf : c.fits) (hsm : c.small) {r : ShRow} (hs : shapeOf c.kind = some r) : ev1 (cfg m) 24 [.d c.d] = some (.d (.str (fmt1 c))) := by
  refine ev1_fn rfl rfl ?_ rfl
  rw [fmt1_txt hs]
  obtain ⟨k, name, text, nums⟩ := c
  obtain ⟨k0, k1, k2⟩ := hf
  obtain ⟨s1, s2, s3⟩ := hsm
  simp only at k0 k1 k2 s1 s2 s3 hs ⊢
  have ho := r_Of m k k0 k1
  unfold ofV at ho
  rw [hs] at ho
  have hw1 : r.word.length ≤ 10 := by
    have := (shapeOf_mem hs).1
    simp only [shapeRows, List.mem_cons, List.not_mem_nil, or_false] at this
    rcases this with rfl | rfl | rfl | rfl | rfl | rfl | rfl | rfl | rfl | rfl | rfl | rfl | rfl | rfl <;> decide
  obtain ⟨w, kd, sn, sm, st⟩ := r
  simp only [refD] at ho hw1 ⊢
  have hlin := r_lines m text s2
  have hcnt : Lib.countByte text 10 ≤ text.length := List.count_le_length
  have hli := e_itoa m (Lib.countByte text 10 : Nat) (by omega)
  have hil := itoa_len (n := ((Lib.countByte text 10 : Nat) : Int)) (by omega) (by omega)
  have hloop : ∀ base : List UInt8, base.length ≤ 5000000000 → loopS (cfg m) s_backstepref51_Text_l0 [0, 1, 2, 3, 5, 16, 6] [1000, 1280] { env := [(0, .d (Cmd.d ⟨k, name, text, nums⟩)), (1, .ptr 1000 0 []), (2, .d (.str [])), (3, .ptr 1280 0 []), (5, .d (.str base)), (16, .d (.bool sn)), (6, .d (.int .i64 0))], cells := [(1000, .var 42 (.d (Cmd.d ⟨k, name, text, nums⟩))), (1280, .var 76 (.d (.agg [.str w, .bool sn, .bool st, .int .i64 sm])))] } =
      some (.exit 0, { env := [(0, .d (Cmd.d ⟨k, name, text, nums⟩)), (1, .ptr 1000 0 []), (2, .d (.str [])), (3, .ptr 1280 0 []), (5, .d (.str (base ++ numsTxt nums))), (16, .d (.bool sn)), (6, .d (.int .i64 nums.length)), (26, .d (.bool false))], cells := [(1000, .var 42 (.d (Cmd.d ⟨k, name, text, nums⟩))), (1280, .var 76 (.d (.agg [.str w, .bool sn, .bool st, .int .i64 sm])))] }) := by
    intro base hb
    have h := loopS_upto (C := cfg m) (c := s_backstepref51_Text_l0) (ks := [0, 1, 2, 3, 5, 16, 6]) (ts := [1000, 1280]) (fun i => { env := [(0, .d (Cmd.d ⟨k, name, text, nums⟩)), (1, .ptr 1000 0 []), (2, .d (.str [])), (3, .ptr 1280 0 []), (5, .d (.str (base ++ numsTxt (nums.take i)))), (16, .d (.bool sn)), (6, .d (.int .i64 (i : Int)))], cells := [(1000, .var 42 (.d (Cmd.d ⟨k, name, text, nums⟩))), (1280, .var 76 (.d (.agg [.str w, .bool sn, .bool st, .int .i64 sm])))] }) nums.length (x := .exit 0)
      (σ := { env := [(0, .d (Cmd.d ⟨k, name, text, nums⟩)), (1, .ptr 1000 0 []), (2, .d (.str [])), (3, .ptr 1280 0 []), (5, .d (.str (base ++ numsTxt nums))), (16, .d (.bool sn)), (6, .d (.int .i64 nums.length)), (26, .d (.bool false))], cells := [(1000, .var 42 (.d (Cmd.d ⟨k, name, text, nums⟩))), (1280, .var 76 (.d (.agg [.str w, .bool sn, .bool st, .int .i64 sm])))] }) (by simp)
      (fun i hi => by
        have hwr := wrap_i64 ((i : Int) + 1) (by omega) (by omega)
        have hb1 := k2 nums[i] (List.getElem_mem hi)
        have hit := e_itoa m nums[i] hb1
        have hil2 := itoa_len hb1.1 hb1.2
        have hnl := numsTxt_len (nums.take i) (fun n hn => k2 n (List.mem_of_mem_take hn))
        rw [List.length_take] at hnl
        have hL1 : base.length + (numsTxt (nums.take i)).length ≤ 9223372036854775806 := by omega
        have hL2 : base.length + ((numsTxt (nums.take i)).length + 1) + (Lib.itoa nums[i]).length ≤ 9223372036854775807 := by omega
        simp [s_backstepref51_Text_l0, Cmd.d, hi, hwr, hit, hL1, hL2, numsTxt_take])
      (by simp [s_backstepref51_Text_l0, Cmd.d])
    have e0 : numsTxt [] = [] := rfl
    simp only [List.take_zero, e0, List.append_nil, Int.natCast_zero] at h
    exact h
  have hnl := numsTxt_len nums k2
  have hb1 := hloop w (by omega)
  have hb2 := hloop (w ++ 32 :: name) (by simp; omega)
  have g1 : w.length ≤ 9223372036854775806 := by omega
  have g2 : w.length + 1 + name.length ≤ 9223372036854775807 := by omega
  cases sn
  all_goals cases st
  all_goals simp only [Cmd.d] at hb1 hb2 hlin hli
  all_goals simp at hb2
  all_goals simp [s_backstepref51_Text, Cmd.d, ho, hb1, hb2, refZ, hlin, hli, g1, g2]
  all_goals repeat (rw [if_pos (by omega)]; simp [hlin, hli])
theorem fmt_take (l : List Cmd) (i : Nat) (h : i < l.length) : fmt (l.take (i + 1)) = fmt (l.take i) ++ fmt1 l[i] := by
  unfold fmt; rw [List.take_add_one, List.map_append, List.flatten_append]; simp [h]
theorem fmt_take_len (l : List Cmd) (i : Nat) : (fmt (l.take i)).length ≤ (fmt l).length := by
  conv => rhs; rw [← List.take_append_drop i l]
  unfold fmt; rw [List.map_append, List.flatten_append, List.length_append]; omega

theorem r_Format (l : List Cmd) (hl : l.length ≤ 4000000000) (hf : ∀ c ∈ l, c.fits) (hc : ∀ c ∈ l, c.small) (hv : ∀ c ∈ l, validC c = true) (hlen : (fmt l).length ≤ 100000000000) : ev1 (cfg m) 11 [.d (.sl (l.map Cmd.d))] = some (.d (.str (fmt l))) := by
  refine ev1_fn rfl rfl ?_ rfl
  have h := loopS_upto (C := cfg m) (c := s_backstepref51_Format_l0) (ks := [0, 2, 3, 4]) (ts := []) (fun i => { env := [(0, .d (.sl (l.map Cmd.d))), (2, .d (.str [])), (3, .d (.str (fmt (l.take i)))), (4, .d (.int .i64 (i : Int)))], cells := [] }) l.length (x := .exit 0)
    (σ := { env := [(0, .d (.sl (l.map Cmd.d))), (2, .d (.str [])), (3, .d (.str (fmt l))), (4, .d (.int .i64 (l.length : Int))), (8, .d (.bool false))], cells := [] }) (by simp)
    (fun i hi => by
      have hw := wrap_i64 ((i : Int) + 1) (by omega) (by omega)
      have hm := List.getElem_mem hi
      obtain ⟨r, hr⟩ := (validC_iff l[i]).1 (hv _ hm)
      have ht := r_Text m l[i] (hf _ hm) (hc _ hm) (by rw [← hr.kind]; exact shape_of r hr.mem)
      have h1 := fmt_take_len l (i + 1)
      rw [fmt_take l i hi, List.length_append] at h1
      have h2 : (fmt (l.take i)).length + (fmt1 l[i]).length ≤ 9223372036854775807 := by omega
      simp [s_backstepref51_Format_l0, hi, hw, ht, h2, fmt_take])
    (by simp [s_backstepref51_Format_l0])
  have e0 : fmt [] = [] := rfl
  simp [e0] at h
  simp [s_backstepref51_Format, h]
end Go.Ev.S
