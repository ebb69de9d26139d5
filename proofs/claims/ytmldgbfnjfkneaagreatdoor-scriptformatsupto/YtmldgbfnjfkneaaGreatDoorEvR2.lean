/- The reference's shapes, lines, One, Valid. -/
import Derived.Test.YtmldgbfnjfkneaaGreatDoorEvR1
import Derived.Test.YtmldgbfnjfkneaaGreatDoorKD
set_option linter.all false
set_option linter.unusedVariables false
set_option linter.unusedSimpArgs false
namespace Go.Ev.S
open Go.Proofs
variable (m : Int)

def refD (r : ShRow) : D := .agg [.str r.word, .bool r.name, .bool r.text, .int .i64 r.nums]
def refZ : D := .agg [.str [], .bool false, .bool false, .int .i64 0]
def ofV (k : Int) : V := match shapeOf k with
  | some r => .tup [.d (refD r), .d (.bool true)]
  | none => .tup [.d refZ, .d (.bool false)]

theorem r_Of (k : Int) (h0 : 0 ≤ k) (h1 : k ≤ 255) : ev1 (cfg m) 35 [.d (.int .u8 k)] = some (ofV k) := by
  have hr : (ofV k).refs = [] := by unfold ofV; split <;> rfl
  by_cases h : 1 ≤ k ∧ k ≤ 14
  · obtain ⟨h2, h3⟩ := h
    have : k = 1 ∨ k = 2 ∨ k = 3 ∨ k = 4 ∨ k = 5 ∨ k = 6 ∨ k = 7 ∨ k = 8 ∨ k = 9 ∨ k = 10 ∨ k = 11 ∨ k = 12 ∨ k = 13 ∨ k = 14 := by omega
    rcases this with rfl | rfl | rfl | rfl | rfl | rfl | rfl | rfl | rfl | rfl | rfl | rfl | rfl | rfl <;> exact ev1_run 3 (by kernel_rfl) hr
  · have hn : shapeOf k = none := by
      refine List.find?_eq_none.2 fun r hr => ?_
      simp only [shapeRows, List.mem_cons, List.not_mem_nil, or_false] at hr
      rcases hr with rfl | rfl | rfl | rfl | rfl | rfl | rfl | rfl | rfl | rfl | rfl | rfl | rfl | rfl <;> (simp; omega)
    have e : ofV k = .tup [.d refZ, .d (.bool false)] := by unfold ofV; rw [hn]
    rw [e]
    refine ev1_fn rfl rfl ?_ rfl
    by_cases h2 : k < 1
    · simp [s_backstepref51_Of, h2, refZ]
    · have h3 : (14 : Int) < k := by omega
      simp [s_backstepref51_Of, h2, h3, refZ, wrap_i64 k (by omega) (by omega)]

theorem count_take (s : List UInt8) (j : Nat) (hj : j < s.length) : Lib.countByte (s.take (j + 1)) 10 = Lib.countByte (s.take j) 10 + if s[j] = 10 then 1 else 0 := by
  unfold Lib.countByte
  rw [List.take_add_one, List.count_append]; simp [hj, List.count_cons]

theorem toNat_eq_ten (b : UInt8) : ((b.toNat : Int) = 10) = (b = 10) := by
  rw [eq_iff_iff]
  constructor
  · intro h
    have h2 : b.toNat = (10 : UInt8).toNat := by show b.toNat = 10; omega
    exact UInt8.toNat_inj.1 h2
  · rintro rfl; rfl

theorem r_lines (s : List UInt8) (hs : s.length ≤ 4000000000) : ev1 (cfg m) 39 [.d (.str s)] = some (.d (.int .i64 (Lib.countByte s 10))) := by
  refine ev1_fn rfl rfl ?_ rfl
  have h := loopS_upto (C := cfg m) (c := s_backstepref51_lines_l0) (ks := [0, 2, 3, 4]) (ts := []) (fun j => { env := [(0, .d (.str s)), (2, .d (.int .i64 0)), (3, .d (.int .i64 (Lib.countByte (s.take j) 10))), (4, .d (.int .i64 (j : Int)))], cells := [] }) s.length (x := .exit 0)
    (σ := { env := [(0, .d (.str s)), (2, .d (.int .i64 0)), (3, .d (.int .i64 (Lib.countByte s 10))), (4, .d (.int .i64 (s.length : Int))), (8, .d (.bool false))], cells := [] }) (by simp)
    (fun j hj => by
      have hw := wrap_i64 ((j : Int) + 1) (by omega) (by omega)
      have hc : Lib.countByte (s.take j) 10 ≤ j := Nat.le_trans List.count_le_length (by simp; omega)
      have hw2 := wrap_i64 ((Lib.countByte (s.take j) 10 : Int) + 1) (by omega) (by omega)
      by_cases hb : s[j] = 10
      · simp [s_backstepref51_lines_l0, hj, hw, hw2, count_take, hb]
      · simp [s_backstepref51_lines_l0, hj, hw, hw2, count_take, hb, toNat_eq_ten])
    (by simp [s_backstepref51_lines_l0])
  simp at h
  have h0 : Lib.countByte [] 10 = 0 := rfl
  simp [h0] at h
  simp [s_backstepref51_lines, h]

theorem last_app (p : List UInt8) (x : UInt8) : Lib.hasSuffix (p ++ [x]) [10] = decide (x = 10) := by
  rw [Bool.eq_iff_iff, suffix_iff, decide_eq_true_eq]
  constructor
  · rintro ⟨q, h⟩
    have := congrArg List.getLast? h
    simpa using this
  · rintro rfl; exact ⟨p, rfl⟩

set_option maxHeartbeats 4000000 in
theorem r_One (c : Cmd) (hf : c.fits) (hsm : c.small) : ev1 (cfg m) 22 [.d c.d] = some (.d (.bool (validC c))) := by
  refine ev1_fn rfl rfl ?_ rfl
  obtain ⟨k, name, text, nums⟩ := c
  obtain ⟨k0, k1, _⟩ := hf
  obtain ⟨s1, s2, s3⟩ := hsm
  simp only at k0 k1 s1 s2 s3
  have ho := r_Of m k k0 k1
  have hN := r_Name m name s1
  unfold ofV at ho
  unfold validC
  simp only
  cases hs : shapeOf k with
  | none =>
    rw [hs] at ho
    simp [s_backstepref51_One, Cmd.d, ho, refZ]
  | some r =>
    rw [hs] at ho
    dsimp only at ho ⊢
    have hr : r.nums = -1 ∨ 0 ≤ r.nums := by
      have := (shapeOf_mem hs).1
      simp only [shapeRows, List.mem_cons, List.not_mem_nil, or_false] at this
      rcases this with rfl | rfl | rfl | rfl | rfl | rfl | rfl | rfl | rfl | rfl | rfl | rfl | rfl | rfl <;> decide
    obtain ⟨w, kd, sn, sm, st⟩ := r
    simp only [refD] at ho hr ⊢
    have e2 : ((4096 : Int) < (nums.length : Int)) = ¬ (nums.length ≤ 4096) := by rw [eq_iff_iff]; omega
    have e3 : ((text.length : Int) ≤ 65536) = (text.length ≤ 65536) := by rw [eq_iff_iff]; omega
    have hin : isName [] = false := rfl
    have tail : ∀ (hnm : name = [] ∧ sn = false ∨ (name ≠ [] ∧ sn = true ∧ isName name = true)),
        (bodyS (cfg m) s_backstepref51_One [.d (Cmd.d ⟨k, name, text, nums⟩)] []).map Prod.fst = some (.d (.bool (((if sn then isName name else decide (name = [])) && decide (nums.length ≤ 4096) && (decide (sm = -1) || decide ((nums.length : Int) = sm)) && (st || decide (text = [])) && decide (text.length ≤ 65536) && (decide (text = []) || Lib.hasSuffix text [10])) : Bool))) := by
      intro hnm
      have hbase : (if sn then isName name else decide (name = [])) = true := by
        rcases hnm with ⟨h1, h2⟩ | ⟨h1, h2, h3⟩
        · simp [h1, h2]
        · simp [h2, h3]
      rw [hbase]
      have post : (decide (nums.length ≤ 4096) && (decide (sm = -1) || decide ((nums.length : Int) = sm))) = true ∨ ((nums.length ≤ 4096) ∧ sm ≠ -1 ∧ (nums.length : Int) ≠ sm) ∨ ¬ (nums.length ≤ 4096) := by
        by_cases h1 : nums.length ≤ 4096
        · by_cases h2 : sm = -1
          · exact .inl (by simp [h1, h2])
          · by_cases h3 : (nums.length : Int) = sm
            · exact .inl (by simp [h1, h3])
            · exact .inr (.inl ⟨h1, h2, h3⟩)
        · exact .inr (.inr h1)
      rcases post with post | ⟨p1, p2, p3⟩ | p1
      · have p1 : nums.length ≤ 4096 := by simp only [Bool.and_eq_true, decide_eq_true_eq] at post; exact post.1
        have p2 : sm = -1 ∨ (sm ≠ -1 ∧ 0 ≤ sm ∧ (nums.length : Int) = sm ∧ ¬ (4096 : Int) < sm) := by
          simp only [Bool.and_eq_true, Bool.or_eq_true, decide_eq_true_eq] at post
          rcases post.2 with h | h
          · exact .inl h
          · exact .inr ⟨by omega, by omega, h, by omega⟩
        rw [Bool.true_and, post, Bool.true_and]
        clear post
        by_cases h6 : text = []
        · subst h6
          rcases hnm with ⟨h1, h2⟩ | ⟨h1, h2, h3⟩ <;> rcases p2 with p2 | ⟨p2, p3, p4, p5⟩ <;> cases st <;> simp [s_backstepref51_One, Cmd.d, refZ, *]
        · obtain ⟨p, x, rfl⟩ : ∃ p x, text = p ++ [x] := ⟨text.dropLast, text.getLast h6, (List.dropLast_concat_getLast h6).symm⟩
          have h8 := last_app p x
          rw [h8]
          simp only [List.length_append, List.length_singleton] at s2 e3 ⊢
          have hw := wrap_i64 (p.length : Int) (by omega) (by omega)
          have h9 := toNat_eq_ten x
          have e4 : ((p.length : Int) + 1 ≤ 65536) = (p.length ≤ 65535) := by rw [eq_iff_iff]; omega
          rcases hnm with ⟨h1, h2⟩ | ⟨h1, h2, h3⟩ <;> rcases p2 with p2 | ⟨p2, p3, p4, p5⟩ <;> cases st <;> by_cases h7 : p.length ≤ 65535 <;> simp [s_backstepref51_One, Cmd.d, refZ, *]
      · have p4 : 0 ≤ sm := by omega
        have e : (decide (sm = -1) || decide ((nums.length : Int) = sm)) = false := by simp [p2, p3]
        rw [e]
        rcases hnm with ⟨h1, h2⟩ | ⟨h1, h2, h3⟩ <;> simp [s_backstepref51_One, Cmd.d, refZ, *]
      · have h9 : (nums.length : Int) = sm → (4096 : Int) < sm := by omega
        have h10 : (4096 : Int) < nums.length := by omega
        rcases hnm with ⟨h1, h2⟩ | ⟨h1, h2, h3⟩ <;> by_cases h4 : 0 ≤ sm <;> by_cases h5 : (nums.length : Int) = sm <;> (try have h11 := h9 h5) <;> simp [s_backstepref51_One, Cmd.d, refZ, *]
    by_cases hn : name = []
    · cases sn with
      | false => exact tail (.inl ⟨hn, rfl⟩)
      | true => subst hn; simp [s_backstepref51_One, Cmd.d, ho, refZ, hin]
    · cases sn with
      | false => simp [s_backstepref51_One, Cmd.d, ho, refZ, hn]
      | true =>
        cases hq : isName name with
        | true => exact hq ▸ tail (.inr ⟨hn, rfl, hq⟩)
        | false => rw [hq] at hN; simp [s_backstepref51_One, Cmd.d, ho, refZ, hn, hN]
end Go.Ev.S
