/- strings.Builder's calls. -/
import Derived.Test.YtmldgbfnjfkneaaDoorEvE7
set_option linter.all false
set_option linter.unusedVariables false
set_option linter.unusedSimpArgs false
namespace Go.Ev.S
open Go.Proofs
variable (m : Int)

theorem ev_copyCheck_fresh (t : Nat) (x : V) (hx : x.size = 1) (rest : Cells) : ev (cfg m) 30 [.ptr t 0 []] ((t, .var 46 (.agg [.d .nilptr, x])) :: rest) = some (.tup [], (t, .var 46 (.agg [.ptr t 0 [], x])) :: rest) :=
  ev_prim (p := pCopyCheck 46) rfl (by simp [pCopyCheck, hx])
theorem ev_copyCheck_used (t : Nat) (x : V) (hx : x.size = 1) (rest : Cells) : ev (cfg m) 30 [.ptr t 0 []] ((t, .var 46 (.agg [.ptr t 0 [], x])) :: rest) = some (.tup [], (t, .var 46 (.agg [.ptr t 0 [], x])) :: rest) :=
  ev_prim (p := pCopyCheck 46) rfl (by simp [pCopyCheck, hx])

@[simp] theorem ofBytes_length (s : List UInt8) : (ofBytes s).length = s.length := by simp [ofBytes]
theorem ofBytes_append (s t : List UInt8) : ofBytes (s ++ t) = ofBytes s ++ ofBytes t := by simp [ofBytes]
@[simp] theorem bytesOf_ofBytes : ∀ (s : List UInt8), bytesOf (ofBytes s) = some s
  | [] => rfl
  | b :: s => by
    have h := bytesOf_ofBytes s
    have hb : (b.toNat : Int) < 256 := by have := b.toNat_lt; omega
    have hb0 : (0 : Int) ≤ b.toNat := by omega
    have he : UInt8.ofNat ((b.toNat : Int).toNat) = b := by simp
    unfold ofBytes at h ⊢
    simp only [List.map_cons, bytesOf, h, hb, hb0, and_self, if_true, he]
@[simp] theorem ofBytes_size (s : List UInt8) : (ofBytes s).all (fun x => x.size == 1) = true := by simp [ofBytes]

theorem ws_fresh (s : List UInt8) (hs : s.length ≤ 100000000000) : ev (cfg m) 20 [.ptr 0 0 [], .d (.str s)] [(0, .var 46 (.agg [.d .nilptr, .nils]))] =
    some (.tup [.d (.int .i64 s.length), .d .nilif], [(0, .var 46 (.agg [.ptr 0 0 [], .own 1536])), (1536, .row 5 1 (ofBytes s))]) := by
  refine ev_fnS (S := s_strings_Builder_WriteString) rfl rfl ?_
  have h1 := ev_copyCheck_fresh m 0 .nils rfl []
  have h2 : s.length ≤ 140737488355328 := by omega
  simp [s_strings_Builder_WriteString, callEff, reach, pass, over, without, noVars, newTags, pickT, swapped, V.ren, V.renL, Cell.ren, h1, h2]

theorem ws_used (b s : List UInt8) (hs : b.length + s.length ≤ 100000000000) : ev (cfg m) 20 [.ptr 0 0 [], .d (.str s)] [(0, .var 46 (.agg [.ptr 0 0 [], .own 1])), (1, .row 5 1 (ofBytes b))] =
    some (.tup [.d (.int .i64 s.length), .d .nilif], [(0, .var 46 (.agg [.ptr 0 0 [], .own 1])), (1, .row 5 1 (ofBytes (b ++ s)))]) := by
  refine ev_fnS (S := s_strings_Builder_WriteString) rfl rfl ?_
  have h1 := ev_copyCheck_used m 0 (.own 1) rfl [(1, .row 5 1 (ofBytes b))]
  have h2 : b.length + s.length ≤ 140737488355328 := by omega
  simp [s_strings_Builder_WriteString, callEff, reach, pass, over, without, noVars, newTags, pickT, swapped, V.ren, V.renL, Cell.ren, h1, h2, ofBytes_append, List.range_succ]

theorem bs_nil : ev (cfg m) 22 [.ptr 0 0 []] [(0, .var 46 (.agg [.d .nilptr, .nils]))] = some (.d (.str []), [(0, .var 46 (.agg [.d .nilptr, .nils]))]) :=
  ev_prim (p := pBString 46 5) rfl (by simp [pBString])
theorem bs_used (b : List UInt8) (hb : b ≠ []) (hs : b.length ≤ 100000000000) : ev (cfg m) 22 [.ptr 0 0 []] [(0, .var 46 (.agg [.ptr 0 0 [], .own 1])), (1, .row 5 1 (ofBytes b))] =
    some (.d (.str b), [(0, .var 46 (.agg [.ptr 0 0 [], .own 1])), (1, .frz (.sl (ofBytes b)))]) :=
  ev_prim (p := pBString 46 5) rfl (by
    have h2 : b.length ≤ 140737488355328 := by omega
    simp [pBString, hb, h2])

theorem e_join (xs : List (List UInt8)) (sep : List UInt8) (h1 : (Lib.join xs sep).length ≤ 100000000000) (h2 : xs.length ≤ 100000000000) : ev1 (cfg m) 21 [.d (.sl (xs.map .str)), .d (.str sep)] = some (.d (.str (Lib.join xs sep))) :=
  ev1_pure (p := pJoin) rfl (by
    simp only [pJoin, strsOf_map]
    rw [if_pos (by simp; omega)]) rfl

/-! ## script.Format -/
def bCells (fresh : Bool) (b : List UInt8) : Cells :=
  if fresh then [(1768, .var 46 (.agg [.d .nilptr, .nils]))] else [(1768, .var 46 (.agg [.ptr 1768 0 [], .own 5632])), (5632, .row 5 1 (ofBytes b))]
def inSt (fresh : Bool) (b : List UInt8) (dl : D) (len i : Nat) (c : Cmd) (r : ShRow) (j : Nat) (ws : List (List UInt8)) : St :=
  { env := [(0, .d dl), (2, .d (.str [])), (3, .d (.int .i64 0)), (15, .d (.bool false)), (4, .ptr 1768 0 []), (16, .d dl), (17, .d (.int .i64 len)), (18, .d (.int .i64 i)), (19, .d (.bool true)), (6, .ptr 2544 0 []), (8, .ptr 2820 0 []), (7, .d (.str r.word)), (10, .own 3052), (32, .d (.bool r.name)), (39, .d (.sl (c.nums.map (.int .i64)))), (40, .d (.int .i64 c.nums.length)), (41, .d (.int .i64 (j : Int)))],
    cells := bCells fresh b ++ [(2544, .var 39 (.d c.d)), (2820, .var 48 (.d (rowD r))), (3052, .row 9 1 (ws.map .str))] ++ (if r.name then [(3572, .row 9 1 [.str c.name])] else []) }
def inKs : List Nat := [0, 2, 3, 15, 4, 16, 17, 18, 19, 6, 8, 7, 10, 32, 39, 40, 41]
def inTs (fresh rn : Bool) : List Nat := (if fresh then [1768] else [1768, 5632]) ++ [2544, 2820, 3052] ++ (if rn then [3572] else [])

set_option maxHeartbeats 2000000 in
theorem fmt_in (fresh : Bool) (b : List UInt8) (dl : D) (len i : Nat) (c : Cmd) (r : ShRow) (ws : List (List UInt8)) (hf : c.fits) (hn : c.nums.length ≤ 4000000000) (hw : ws.length ≤ 10) :
    loopS (cfg m) s_script_Format_l0 inKs (inTs fresh r.name) (inSt fresh b dl len i c r 0 ws) = some (.exit 2, { inSt fresh b dl len i c r c.nums.length (ws ++ c.nums.map Lib.itoa) with env := (inSt fresh b dl len i c r c.nums.length (ws ++ c.nums.map Lib.itoa)).env ++ [(42, .d (.bool false))] }) := by
  have h := loopS_upto (C := cfg m) (c := s_script_Format_l0) (ks := inKs) (ts := inTs fresh r.name) (fun j => inSt fresh b dl len i c r j (ws ++ (c.nums.take j).map Lib.itoa)) c.nums.length (x := .exit 2) (σ := { inSt fresh b dl len i c r c.nums.length (ws ++ c.nums.map Lib.itoa) with env := (inSt fresh b dl len i c r c.nums.length (ws ++ c.nums.map Lib.itoa)).env ++ [(42, .d (.bool false))] }) (by simp) ?_ ?_
  · simpa using h
  · intro j hj
    have hr := hf.2.2 c.nums[j] (List.getElem_mem hj)
    have ht : c.nums.take (j + 1) = c.nums.take j ++ [c.nums[j]] := by rw [List.take_add_one]; simp [hj]
    have hw1 := wrap_i64 ((j : Int) + 1) (by omega) (by omega)
    have hmin : min j c.nums.length = j := by omega
    have hc1 : ws.length + j + 1 ≤ 140737488355328 ∧ (ws.length + j + 1) * 16 ≤ 140737488355328 := by omega
    rw [ht]
    obtain ⟨rw_, rk, rn, rm, rt⟩ := r
    obtain ⟨k, name, text, nums⟩ := c
    simp only at hj hr hmin
    cases fresh <;> cases rn <;> simp [s_script_Format_l0, inSt, inTs, inKs, bCells, hj, e_itoa m _ hr, hw1, hmin, hc1, rowD, Cmd.d]
    all_goals (rw [List.take_add_one]; simp [hj])
  · obtain ⟨rw_, rk, rn, rm, rt⟩ := r
    obtain ⟨k, name, text, nums⟩ := c
    cases fresh <;> cases rn <;> simp [s_script_Format_l0, inSt, bCells, rowD, Cmd.d]

def outSt (fresh : Bool) (b : List UInt8) (dl : D) (len i : Nat) : St :=
  { env := [(0, .d dl), (2, .d (.str [])), (3, .d (.int .i64 0)), (15, .d (.bool false)), (4, .ptr 1768 0 []), (16, .d dl), (17, .d (.int .i64 len)), (18, .d (.int .i64 (i : Int)))], cells := bCells fresh b }

theorem wordsOf_len (c : Cmd) (r : ShRow) : (wordsOf c r).length ≤ c.nums.length + 3 := by
  unfold wordsOf; cases r.name <;> cases r.text <;> simp <;> omega

set_option maxHeartbeats 4000000 in
theorem fmt_out (fresh : Bool) (b : List UInt8) (l : List Cmd) (i : Nat) (hi : i < l.length) (r : ShRow) (hr : shapeOf l[i].kind = some r) (hf : l[i].fits) (hsm : l[i].small) (hl : l.length ≤ 4000000000)
    (hlen : b.length + (fmt1 l[i]).length ≤ 100000000000) (hb : fresh = true → b = []) :
    ∃ σ', evalS (cfg m) s_script_Format_l1 (outSt fresh b (.sl (l.map Cmd.d)) l.length i) = some (.normal, σ') ∧ σ'.norm [0, 2, 3, 15, 4, 16, 17, 18] [1768] = outSt false (b ++ fmt1 l[i]) (.sl (l.map Cmd.d)) l.length (i + 1) := by
  have hget0 : l[i]? = some l[i] := List.getElem?_eq_getElem hi
  have hw1 := wrap_i64 ((i : Int) + 1) (by omega) (by omega)
  have hf1 : fmt1 l[i] = Lib.join (wordsOf l[i] r) [32] ++ [10] ++ l[i].text := by unfold fmt1; rw [hr]
  rw [hf1] at hlen ⊢
  generalize hc : l[i] = c at *
  have hin := fmt_in m fresh b (.sl (l.map Cmd.d)) l.length i c r (if r.name then [r.word, c.name] else [r.word]) hf hsm.2.2 (by split <;> simp)
  have hjl : (Lib.join (wordsOf c r) [32]).length + 1 + c.text.length ≤ 100000000000 - b.length := by simp at hlen; omega
  have hj := e_join m (wordsOf c r) [32] (by omega) (by have := wordsOf_len c r; have := hsm.2.2; omega)
  have hcnt : -9223372036854775808 ≤ ((Lib.countByte c.text 10 : Nat) : Int) ∧ ((Lib.countByte c.text 10 : Nat) : Int) ≤ 9223372036854775807 := by
    have : Lib.countByte c.text 10 ≤ c.text.length := List.count_le_length
    have := hsm.2.1
    omega
  have hit := e_itoa m _ hcnt
  have hwu := ws_used m b (Lib.join (wordsOf c r) [32] ++ [10] ++ c.text) (by simp; omega)
  have hwf := ws_fresh m (Lib.join (wordsOf c r) [32] ++ [10] ++ c.text) (by simp; omega)
  generalize hJ : Lib.join (wordsOf c r) [32] = J at *
  have hl1 : J.length + 1 ≤ 9223372036854775807 := by omega
  have hl2 : J.length + 1 + c.text.length ≤ 9223372036854775807 := by omega
  simp only [List.append_assoc, List.singleton_append] at hwu hwf
  have hwl : (c.nums.length + 1 + 1 ≤ 140737488355328 ∧ (c.nums.length + 1 + 1) * 16 ≤ 140737488355328) ∧ (c.nums.length + 1 + 1 + 1 ≤ 140737488355328 ∧ (c.nums.length + 1 + 1 + 1) * 16 ≤ 140737488355328) := by have := hsm.2.2; omega
  obtain ⟨k, name, text, nums⟩ := c
  obtain ⟨rw_, rk, rn, rm, rt⟩ := r
  simp only at hl1 hl2 hwl hcnt hit
  simp [wordsOf] at hj
  simp at hwu hwf
  have hhi : (i : Int) < l.length := by omega
  cases fresh
  · cases rn
    all_goals simp [inSt, inTs, inKs, bCells, rowD, Cmd.d] at hin
    all_goals simp [s_script_Format_l1, outSt, bCells, hhi, hget0, e_find, find_some hr, rowD, Cmd.d]
    all_goals rw [hin]
    all_goals cases rt
    all_goals simp at hj
    all_goals simp [hj, callEff, reach, pass, over, without, noVars, newTags, pickT, swapped, V.ren, V.renL, Cell.ren, List.range_succ, hwu, hw1, hwl, hl1, hl2, e_count, hit]
  · obtain rfl := hb rfl
    cases rn
    all_goals simp [inSt, inTs, inKs, bCells, rowD, Cmd.d] at hin
    all_goals simp [s_script_Format_l1, outSt, bCells, hhi, hget0, e_find, find_some hr, rowD, Cmd.d]
    all_goals rw [hin]
    all_goals cases rt
    all_goals simp at hj
    all_goals simp [hj, callEff, reach, pass, over, without, noVars, newTags, pickT, swapped, V.ren, V.renL, Cell.ren, hwf, hw1, hwl, hl1, hl2, e_count, hit]

theorem fmt1_ne {c : Cmd} {r : ShRow} (h : shapeOf c.kind = some r) : fmt1 c ≠ [] := by
  unfold fmt1; rw [h]; simp

theorem fmt_snoc (l : List Cmd) (c : Cmd) : fmt (l ++ [c]) = fmt l ++ fmt1 c := by simp [fmt]
theorem fmt_take_le (l : List Cmd) (i : Nat) : (fmt (l.take i)).length ≤ (fmt l).length := by
  have h : fmt l = fmt (l.take i) ++ fmt (l.drop i) := by
    unfold fmt; rw [← List.flatten_append, ← List.map_append, List.take_append_drop]
  rw [h, List.length_append]; omega

set_option maxHeartbeats 1000000 in
theorem e_Format (l : List Cmd) (hl : l.length ≤ 4000000000) (hc : ∀ c ∈ l, c.small) (hf : ∀ c ∈ l, c.fits) (hlen : (fmt l).length ≤ 100000000000) :
    ev1 (cfg m) 11 [.d (.sl (l.map Cmd.d))] = some (.tup [.d (.str (if validL l then fmt l else [])), .d (.int .i64 (if validL l then 0 else 3))]) := by
  refine ev1_fn rfl rfl ?_ rfl
  have h1 := e_Valid m l hl hc
  cases hv : validL l with
  | false =>
    rw [hv] at h1
    simp [s_script_Format, h1]
  | true =>
    rw [hv] at h1
    have hval : ∀ c ∈ l, ∃ r, shapeOf c.kind = some r := fun c hcm => by
      unfold validL at hv
      simp only [Bool.and_eq_true, List.all_eq_true] at hv
      have := hv.1 c hcm
      unfold validC at this
      cases hs : shapeOf c.kind with
      | none => rw [hs] at this; cases this
      | some r => exact ⟨r, rfl⟩
    have h := loopS_upto (C := cfg m) (c := s_script_Format_l1) (ks := [0, 2, 3, 15, 4, 16, 17, 18]) (ts := [1768]) (fun i => outSt (decide (i = 0)) (fmt (l.take i)) (.sl (l.map Cmd.d)) l.length i) l.length (x := .exit 0)
      (σ := { outSt (decide (l.length = 0)) (fmt l) (.sl (l.map Cmd.d)) l.length l.length with env := (outSt (decide (l.length = 0)) (fmt l) (.sl (l.map Cmd.d)) l.length l.length).env ++ [(19, .d (.bool false))] }) (by simp)
      (fun i hi => by
        obtain ⟨r, hr⟩ := hval _ (List.getElem_mem hi)
        have ht : l.take (i + 1) = l.take i ++ [l[i]] := by rw [List.take_add_one]; simp [hi]
        have hle := fmt_take_le l (i + 1)
        rw [ht, fmt_snoc, List.length_append] at hle
        obtain ⟨σ', g1, g2⟩ := fmt_out m (decide (i = 0)) (fmt (l.take i)) l i hi r hr (hf _ (List.getElem_mem hi)) (hc _ (List.getElem_mem hi)) hl (by omega) (fun h => by simp at h; subst h; rfl)
        refine ⟨σ', g1, ?_⟩
        rw [g2, ht, fmt_snoc]
        simp)
      (by
        rw [List.take_length]
        simp [s_script_Format_l1, outSt])
    have h0 : outSt (decide (0 = 0)) (fmt (l.take 0)) (.sl (l.map Cmd.d)) l.length 0 = outSt true [] (.sl (l.map Cmd.d)) l.length 0 := by simp [fmt]
    rw [h0] at h
    cases l with
    | nil =>
      simp [outSt, bCells] at h
      simp [s_script_Format, h1]
      simp at h1
      simp [h1]
      rw [h]
      have := bs_nil m
      simp [callEff, reach, pass, over, without, noVars, newTags, pickT, swapped, V.ren, V.renL, Cell.ren, this, fmt]
    | cons c l =>
      have hne : fmt (c :: l) ≠ [] := by
        obtain ⟨r, hr⟩ := hval c (by simp)
        have := fmt1_ne hr
        unfold fmt; simp [this]
      simp [outSt, bCells] at h
      simp at h1
      simp [s_script_Format, h1]
      rw [h]
      have := bs_used m (fmt (c :: l)) hne hlen
      simp [callEff, reach, pass, over, without, noVars, newTags, pickT, swapped, V.ren, V.renL, Cell.ren, List.range_succ, this]
end Go.Ev.S
