/- script.one, script.Parse. -/
import Derived.Test.YtmldgbfnjfkneaaDoorEvE6
import Derived.Test.YtmldgbfnjfkneaaDoorKD
set_option linter.all false
set_option linter.unusedVariables false
set_option linter.unusedSimpArgs false
namespace Go.Ev.S
open Go.Proofs
variable (m : Int)

/-- What a first line gives is as small as the line. -/
theorem firstM_small {line : List UInt8} (hl : line.length ≤ 4000000000) {c : Cmd} {n : Nat} (h : firstM line = some (c, n)) :
    c.name.length ≤ 4000000000 ∧ c.nums.length ≤ 4000000000 ∧ c.text = [] ∧ n ≤ 9223372036854775807 ∧ (∀ x ∈ c.nums, -9223372036854775808 ≤ x ∧ x ≤ 9223372036854775807) ∧ 0 ≤ c.kind ∧ c.kind ≤ 255 := by
  obtain ⟨w, ws, hw, hlen, hwl⟩ := split_words line hl
  unfold firstM at h
  rw [hw] at h
  simp only [List.headD_cons, List.drop_succ_cons, List.drop_zero] at h
  cases hs : shapeBy w with
  | none => simp [hs] at h
  | some r =>
    simp only [hs] at h
    have hk : 0 ≤ r.kind ∧ r.kind ≤ 255 := by
      have := List.mem_of_find?_eq_some hs
      simp only [shapeRows, List.mem_cons, List.not_mem_nil, or_false] at this
      rcases this with rfl | rfl | rfl | rfl | rfl | rfl | rfl | rfl | rfl | rfl | rfl | rfl | rfl | rfl <;> decide
    cases hc : (r.name && !headName ws) with
    | true => rw [hc] at h; cases h
    | false =>
      rw [hc] at h
      simp only [Bool.false_eq_true, if_false] at h
      have hname : (if r.name = true then ws.headD [] else []).length ≤ 4000000000 := by
        split
        · cases ws with
          | nil => simp
          | cons x ws => exact hlen x (by simp)
        · simp
      have hws : (if r.name = true then List.drop 1 ws else ws).length ≤ 4000000000 := by
        split
        · simp; omega
        · exact hwl
      cases hq : canons (if r.name = true then List.drop 1 ws else ws) with
      | none => rw [hq] at h; cases h
      | some nums =>
        rw [hq] at h
        dsimp only at h
        have hnl := canons_len hq
        have hnb := canons_bounds hq
        cases hc2 : (r.text && !lastOk nums) with
        | true => rw [hc2] at h; cases h
        | false =>
          rw [hc2, if_neg (by decide)] at h
          by_cases hm : r.nums = -1 ∨ ((if r.text = true then nums.dropLast else nums).length : Int) = r.nums
          · rw [if_pos hm] at h
            simp only [Option.some.injEq, Prod.mk.injEq] at h
            obtain ⟨rfl, rfl⟩ := h
            refine ⟨hname, ?_, rfl, ?_, fun x hx => ?_, hk⟩
            · dsimp only
              split
              · simp; omega
              · omega
            · split
              · cases hg : nums.getLast? with
                | none => simp
                | some v =>
                  have := hnb v (List.mem_of_getLast? hg)
                  simp; omega
              · omega
            · dsimp only at hx
              split at hx
              · exact hnb x ((List.dropLast_sublist _).subset hx)
              · exact hnb x hx
          · rw [if_neg hm] at h; cases h

theorem cutM_count2 : ∀ (k : Nat) (t a r : List UInt8), cutM k t = some (a, r) → k ≤ a.length
  | 0, t, a, r, h => Nat.zero_le _
  | k + 1, t, a, r, h => by
    unfold cutM at h
    split at h
    · cases h
    · rename_i hi
      cases hq : cutM k (t.drop ((Lib.indexByte t 10).toNat + 1)) with
      | none => simp [hq] at h
      | some q =>
        obtain ⟨a', r'⟩ := q
        have h1 := cutM_count2 k _ a' r' hq
        simp only [hq, Option.some.injEq, Prod.mk.injEq] at h
        obtain ⟨rfl, rfl⟩ := h
        rw [List.length_append, List.length_take]
        rcases indexByte_lt t 10 with h2 | h2
        · omega
        · subst h2; simp [Lib.indexByte] at hi

/-- So many line feeds are there. -/
theorem cutM_count : ∀ (k : Nat) (t a r : List UInt8), cutM k t = some (a, r) → k ≤ t.length
  | 0, t, a, r, h => Nat.zero_le _
  | k + 1, t, a, r, h => by
    unfold cutM at h
    split at h
    · cases h
    · rename_i hi
      cases hq : cutM k (t.drop ((Lib.indexByte t 10).toNat + 1)) with
      | none => simp [hq] at h
      | some q =>
        obtain ⟨a', r'⟩ := q
        have := cutM_count k _ a' r' hq
        rw [List.length_drop] at this
        rcases indexByte_lt t 10 with h1 | h1
        · omega
        · subst h1; simp [Lib.indexByte] at hi

theorem cut_small (s sep : List UInt8) : (Lib.cut s sep).1.length ≤ s.length ∧ (Lib.cut s sep).2.1.length ≤ s.length := by
  unfold Lib.cut; split <;> simp <;> omega

def zeroD : D := .agg [.int .u8 0, .str [], .str [], .sl []]

set_option maxHeartbeats 1000000 in
theorem e_one (s : List UInt8) (hs : s.length ≤ 4000000000) (b : Nat) :
    ev1 (cfg m) 24 [.d (.str s), .d (.int .i64 b)] = some (match oneM s b with
      | .ok (c, r, n) => .tup [.d c.d, .d (.str r), .d (.int .i64 n), .d (.int .i64 0)]
      | .error e => .tup [.d zeroD, .d (.str []), .d (.int .i64 0), .d (.int .i64 e)]) := by
  refine ev1_fn rfl rfl ?_ (by split <;> rfl)
  have hcs := cut_small s [10]
  unfold oneM
  by_cases hb : 1000 ≤ b
  · have hb' : (1000 : Int) ≤ b := by omega
    simp [s_script_one, hb, hb', zeroD]
  · have hb' : ¬ (1000 : Int) ≤ b := by omega
    cases hc : (Lib.cut s [10]).2.2 with
    | false => simp [s_script_one, hb, hb', e_cutS m s [10] hs, hc, zeroD]
    | true =>
      have hf := e_first m (Lib.cut s [10]).1 (by omega)
      cases hq : firstM (Lib.cut s [10]).1 with
      | none =>
        rw [hq] at hf
        dsimp only at hf
        obtain ⟨x, n, h1, h2⟩ := hf
        have h3 : x.isAgg = true ∨ x.isAgg = false := by cases x.isAgg <;> simp
        simp [s_script_one, hb, hb', e_cutS m s [10] hs, hc, h1, h2, zeroD]
      | some q =>
        obtain ⟨c, n⟩ := q
        rw [hq] at hf
        simp only at hf
        obtain ⟨f1, f2, f3, f4, _⟩ := firstM_small (by omega) hq
        obtain ⟨k, name, text, nums⟩ := c
        simp only at f3
        subst f3
        have hcut := e_cut m (Lib.cut s [10]).2.1 n (by omega) (by omega) (by omega)
        rw [Int.toNat_natCast] at hcut
        cases hr : cutM n (Lib.cut s [10]).2.1 with
        | none =>
          rw [hr] at hcut
          simp [s_script_one, hb, hb', e_cutS m s [10] hs, hc, hf, hcut, Cmd.d, zeroD, hr]
        | some q =>
          obtain ⟨t, r⟩ := q
          rw [hr] at hcut
          have hsp := cutM_spec _ _ _ _ hr
          have htl : t.length ≤ 4000000000 := by
            have := congrArg List.length hsp
            simp at this; omega
          have hv := e_valid m ⟨k, name, t, nums⟩ f1 htl f2
          simp only [Cmd.d] at hv hf
          cases hv2 : validC ⟨k, name, t, nums⟩ with
          | false =>
            rw [hv2] at hv
            simp [s_script_one, hb, hb', e_cutS m s [10] hs, hc, hf, hcut, Cmd.d, zeroD, hr, hv, hv2]
          | true =>
            rw [hv2] at hv
            have hn : (n : Int) + 1 ≤ 9223372036854775807 := by have := cutM_count _ _ _ _ hr; omega
            simp [s_script_one, hb, hb', e_cutS m s [10] hs, hc, hf, hcut, Cmd.d, zeroD, hr, hv, hv2, wrap_i64 ((n : Int) + 1) (by omega) hn]

theorem oneM_err {s : List UInt8} {b : Nat} {e : Int} (h : oneM s b = .error e) : e = 3 ∨ e = 4 ∨ e = 5 := by
  unfold oneM at h
  split at h
  · cases h; simp
  · split at h
    · split at h
      · cases h; simp
      · split at h
        · cases h; simp
        · split at h
          · cases h
          · cases h; simp
    · cases h; simp

theorem cut_found {s : List UInt8} (h : (Lib.cut s [10]).2.2 = true) : s = (Lib.cut s [10]).1 ++ [10] ++ (Lib.cut s [10]).2.1 ∧ (10 : UInt8) ∉ (Lib.cut s [10]).1 := by
  rcases index_cases s 10 with ⟨h1, _⟩ | ⟨w, t, rfl, hw, _⟩
  · rw [cut_none h1] at h; cases h
  · rw [cut_at hw]; exact ⟨by simp, hw⟩

theorem oneM_ok {s : List UInt8} {b : Nat} {c : Cmd} {r : List UInt8} {n : Nat} (h : oneM s b = .ok (c, r, n)) : r.length < s.length ∧ n + r.length ≤ s.length := by
  unfold oneM at h
  split at h
  · cases h
  · split at h
    · rename_i hc
      obtain ⟨hs, _⟩ := cut_found hc
      have hl := congrArg List.length hs
      simp at hl
      split at h
      · cases h
      · rename_i c' k hf
        split at h
        · cases h
        · rename_i t r' hcut
          split at h
          · simp only [Except.ok.injEq, Prod.mk.injEq] at h
            obtain ⟨rfl, rfl, rfl⟩ := h
            have h1 := cutM_spec _ _ _ _ hcut
            have h2 := cutM_count2 _ _ _ _ hcut
            have h3 := congrArg List.length h1
            simp at h3
            omega
          · cases h
    · cases h

theorem parse_loop : ∀ (f : Nat) (s : List UInt8) (out : List Cmd) (line : Nat), s.length < f → (s.length + line ≤ 4000000000) → out.length + s.length ≤ 4000000000 →
    ∃ x σ, x ≠ EX.normal ∧ loopS (cfg m) s_script_Parse_l0 [0, 2, 3, 4, 5, 6] [1000, 1256] { env := [(0, .d (.str s)), (2, .own 1000), (3, .d (.int .i64 0)), (4, .d (.int .i64 0)), (5, .own 1256), (6, .d (.int .i64 line))], cells := [(1000, .row 39 4 []), (1256, .row 39 4 (out.map Cmd.d))] } = some (x, σ) ∧
      (finE (seqE (cfg m) (blockE (some (x, σ)) 0) (.seq (.region 10 [{ dst := some 34, op := .mov (.t 5), guard := none }, { dst := some 2, op := .mov (.t 34), guard := none }, { dst := some 3, op := .mov (.c (.d (.int .i64 0))), guard := none }, { dst := some 4, op := .mov (.c (.d (.int .i64 0))), guard := none }] false [] [34]) .ret)) [.tmp 2, .tmp 3, .tmp 4]).map Prod.fst =
        some (.tup [.d (.sl ((parseGo f s out line).1.map Cmd.d)), .d (.int .i64 (parseGo f s out line).2.1), .d (.int .i64 (parseGo f s out line).2.2)]) := by
  intro f
  induction f with
  | zero => intro s out line h; omega
  | succ f ih =>
    intro s out line hf h1 h2
    unfold parseGo
    by_cases hs : s = []
    · subst hs
      simp only [if_true]
      have hb : ∃ σ', evalS (cfg m) s_script_Parse_l0 { env := [(0, .d (.str [])), (2, .own 1000), (3, .d (.int .i64 0)), (4, .d (.int .i64 0)), (5, .own 1256), (6, .d (.int .i64 line))], cells := [(1000, .row 39 4 []), (1256, .row 39 4 (out.map Cmd.d))] } = some (.exit 0, σ') ∧
          (finE (seqE (cfg m) (blockE (some (.exit 0, σ')) 0) (.seq (.region 10 [{ dst := some 34, op := .mov (.t 5), guard := none }, { dst := some 2, op := .mov (.t 34), guard := none }, { dst := some 3, op := .mov (.c (.d (.int .i64 0))), guard := none }, { dst := some 4, op := .mov (.c (.d (.int .i64 0))), guard := none }] false [] [34]) .ret)) [.tmp 2, .tmp 3, .tmp 4]).map Prod.fst =
        some (.tup [.d (.sl (out.map Cmd.d)), .d (.int .i64 0), .d (.int .i64 0)]) := by
        simp [s_script_Parse_l0]
      obtain ⟨σ', g1, g2⟩ := hb
      exact ⟨_, σ', by simp, loopS_exit g1, g2⟩
    · rw [if_neg hs]
      have ho := e_one m s (by omega) out.length
      cases hq : oneM s out.length with
      | error e =>
        rw [hq] at ho
        dsimp only at ho ⊢
        have he := oneM_err hq
        have he0 : ¬ e = 0 := by omega
        have hb : ∃ σ', evalS (cfg m) s_script_Parse_l0 { env := [(0, .d (.str s)), (2, .own 1000), (3, .d (.int .i64 0)), (4, .d (.int .i64 0)), (5, .own 1256), (6, .d (.int .i64 line))], cells := [(1000, .row 39 4 []), (1256, .row 39 4 (out.map Cmd.d))] } = some (.ret, σ') ∧
            (finE (seqE (cfg m) (blockE (some (.ret, σ')) 0) (.seq (.region 10 [{ dst := some 34, op := .mov (.t 5), guard := none }, { dst := some 2, op := .mov (.t 34), guard := none }, { dst := some 3, op := .mov (.c (.d (.int .i64 0))), guard := none }, { dst := some 4, op := .mov (.c (.d (.int .i64 0))), guard := none }] false [] [34]) .ret)) [.tmp 2, .tmp 3, .tmp 4]).map Prod.fst =
          some (.tup [.d (.sl (([] : List Cmd).map Cmd.d)), .d (.int .i64 line), .d (.int .i64 e)]) := by
          simp [s_script_Parse_l0, hs, ho, zeroD, he0]
        obtain ⟨σ', g1, g2⟩ := hb
        exact ⟨_, σ', by simp, loopS_ret g1, g2⟩
      | ok q =>
        obtain ⟨c, r, n⟩ := q
        rw [hq] at ho
        dsimp only at ho ⊢
        have hlt := oneM_ok hq
        have hb : ∃ σ', evalS (cfg m) s_script_Parse_l0 { env := [(0, .d (.str s)), (2, .own 1000), (3, .d (.int .i64 0)), (4, .d (.int .i64 0)), (5, .own 1256), (6, .d (.int .i64 line))], cells := [(1000, .row 39 4 []), (1256, .row 39 4 (out.map Cmd.d))] } = some (.normal, σ') ∧
            σ'.norm [0, 2, 3, 4, 5, 6] [1000, 1256] = { env := [(0, .d (.str r)), (2, .own 1000), (3, .d (.int .i64 0)), (4, .d (.int .i64 0)), (5, .own 1256), (6, .d (.int .i64 ((line + n : Nat) : Int)))], cells := [(1000, .row 39 4 []), (1256, .row 39 4 ((out ++ [c]).map Cmd.d))] } := by
          have hw := wrap_i64 ((line : Int) + n) (by omega) (by omega)
          have hr : out.length + 1 ≤ 140737488355328 ∧ (out.length + 1) * 64 ≤ 140737488355328 := by omega
          have hcd : c.d.isAgg = true ∧ c.d.size = 4 := ⟨rfl, rfl⟩
          simp [s_script_Parse_l0, hs, ho, hw, hr]
        obtain ⟨σ', g1, g2⟩ := hb
        have := ih r (out ++ [c]) (line + n) (by omega) (by omega) (by simp; omega)
        obtain ⟨x, σ, k1, k2, k3⟩ := this
        exact ⟨x, σ, k1, loopS_step g1 (by rw [g2]; exact k2), k3⟩

theorem e_Parse (s : List UInt8) (hs : s.length ≤ 2000000000) : ev1 (cfg m) 14 [.d (.str s)] =
    some (.tup [.d (.sl ((parseM s).1.map Cmd.d)), .d (.int .i64 (parseM s).2.1), .d (.int .i64 (parseM s).2.2)]) := by
  refine ev1_fn rfl rfl ?_ rfl
  obtain ⟨x, σ, k1, k2, k3⟩ := parse_loop m (s.length + 1) s [] 1 (by omega) (by omega) (by simp; omega)
  change _ = some (V.tup [.d (.sl ((parseM s).1.map Cmd.d)), .d (.int .i64 (parseM s).2.1), .d (.int .i64 (parseM s).2.2)]) at k3
  simp only [List.map_nil] at k2
  simp [s_script_Parse]
  rw [show ((1 : Nat) : Int) = 1 from rfl] at k2
  rw [k2]
  simpa using k3
end Go.Ev.S
