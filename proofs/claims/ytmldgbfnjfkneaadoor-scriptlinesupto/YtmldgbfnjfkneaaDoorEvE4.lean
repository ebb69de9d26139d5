/- script.Valid, script.cut; the law's helpers. -/
import Derived.Test.YtmldgbfnjfkneaaDoorEvE3
set_option linter.all false
set_option linter.unusedVariables false
set_option linter.unusedSimpArgs false
namespace Go.Ev.S
open Go.Proofs
variable (m : Int)

@[simp] theorem Cmd.size_d (c : Cmd) : D.size c.d = 4 := rfl
@[simp] theorem Cmd.agg_d (c : Cmd) : c.d.isAgg = true := rfl

/-- What a machine can hold. -/
def Cmd.small (c : Cmd) : Prop := c.name.length ≤ 4000000000 ∧ c.text.length ≤ 4000000000 ∧ c.nums.length ≤ 4000000000

theorem e_Valid (l : List Cmd) (hl : l.length ≤ 4000000000) (hc : ∀ c ∈ l, c.small) : ev1 (cfg m) 13 [.d (.sl (l.map Cmd.d))] = some (.d (.bool (validL l))) := by
  refine ev1_fn rfl rfl ?_ rfl
  have hv : ∀ i (h : i < l.length), ev1 (cfg m) 23 [.d (l[i]).d] = some (.d (.bool (validC l[i]))) := fun i h => by
    obtain ⟨h1, h2, h3⟩ := hc _ (List.getElem_mem h)
    exact e_valid m _ h1 h2 h3
  have hstep : ∀ i, i < l.length → (∀ h : i < l.length, validC l[i] = true) → ∃ σ', evalS (cfg m) s_script_Valid_l0 { env := [(0, .d (.sl (l.map Cmd.d))), (2, .d (.bool false)), (5, .d (.sl (l.map Cmd.d))), (6, .d (.int .i64 l.length)), (7, .d (.int .i64 (i : Int)))], cells := [] } = some (.normal, σ') ∧
      σ'.norm [0, 2, 5, 6, 7] [] = { env := [(0, .d (.sl (l.map Cmd.d))), (2, .d (.bool false)), (5, .d (.sl (l.map Cmd.d))), (6, .d (.int .i64 l.length)), (7, .d (.int .i64 ((i + 1 : Nat) : Int)))], cells := [] } := fun i hlt hvi => by
    simp [s_script_Valid_l0, hlt, hv i hlt, hvi hlt, wrap_i64 ((i : Int) + 1) (by omega) (by omega)]
  cases hall : l.all validC with
  | true =>
    have h := loopS_upto (C := cfg m) (c := s_script_Valid_l0) (ks := [0, 2, 5, 6, 7]) (ts := []) (fun i => { env := [(0, .d (.sl (l.map Cmd.d))), (2, .d (.bool false)), (5, .d (.sl (l.map Cmd.d))), (6, .d (.int .i64 l.length)), (7, .d (.int .i64 (i : Int)))], cells := [] }) l.length (x := .exit 0) (by simp)
      (fun i hi => hstep i hi fun h => List.all_eq_true.1 hall _ (List.getElem_mem h)) (by simp [s_script_Valid_l0]; rfl)
    simp at h
    simp [s_script_Valid, h, validL, hall]
    omega
  | false =>
    obtain ⟨j, hj, hjv, hjb⟩ : ∃ j, ∃ h : j < l.length, validC l[j] = false ∧ ∀ i (h : i < j), ∀ h' : i < l.length, validC l[i] = true := by
      have h1 : l.findIdx (fun c => !validC c) < l.length := List.findIdx_lt_length.2 (by
        obtain ⟨x, hx, hx'⟩ := List.all_eq_false.1 hall
        exact ⟨x, hx, by simpa using hx'⟩)
      refine ⟨_, h1, by simpa using List.findIdx_getElem (w := h1), fun i hi h' => by simpa using List.not_of_lt_findIdx hi⟩
    have h := loopS_upto (C := cfg m) (c := s_script_Valid_l0) (ks := [0, 2, 5, 6, 7]) (ts := []) (fun i => { env := [(0, .d (.sl (l.map Cmd.d))), (2, .d (.bool false)), (5, .d (.sl (l.map Cmd.d))), (6, .d (.int .i64 l.length)), (7, .d (.int .i64 (i : Int)))], cells := [] }) j (x := .ret) (by simp)
      (fun i hi => hstep i (by omega) fun h => hjb i hi h) (by simp [s_script_Valid_l0, hj, hv j hj, hjv]; rfl)
    simp at h
    simp [s_script_Valid, h, validL, hall]

theorem cutM_spec : ∀ (k : Nat) (t a r : List UInt8), cutM k t = some (a, r) → t = a ++ r
  | 0, t, a, r, h => by simp [cutM] at h; obtain ⟨rfl, rfl⟩ := h; rfl
  | k + 1, t, a, r, h => by
    unfold cutM at h
    split at h
    · cases h
    · cases hq : cutM k (t.drop ((Lib.indexByte t 10).toNat + 1)) with
      | none => simp [hq] at h
      | some q =>
        obtain ⟨a', r'⟩ := q
        simp only [hq, Option.some.injEq, Prod.mk.injEq] at h
        obtain ⟨rfl, rfl⟩ := h
        have := cutM_spec k _ a' r' hq
        rw [List.append_assoc, ← this, List.take_append_drop]

theorem indexByte_lt (s : List UInt8) (c : UInt8) : Lib.indexByte s c < s.length ∨ s = [] := by
  induction s with
  | nil => exact .inr rfl
  | cons b s ih =>
    left
    unfold Lib.indexByte
    split
    · simp
    · split
      · simp; omega
      · rcases ih with h | h
        · simp; omega
        · subst h; simp [Lib.indexByte] at *

@[simp] theorem cast_neg (j : Nat) : ((j : Int) < 0) = False := by simp

theorem cut_loop (s : List UInt8) (n : Int) (hn : n ≤ 9223372036854775807) (hs : s.length ≤ 4000000000) : ∀ (k i at_ : Nat), (i : Int) + k = n → at_ ≤ s.length →
    match cutM k (s.drop at_) with
    | some (a, _) => loopS (cfg m) s_script_cut_l0 [0, 1, 4, 5, 6, 7, 9, 10] [] { env := [(0, .d (.str s)), (1, .d (.int .i64 n)), (4, .d (.str [])), (5, .d (.str [])), (6, .d (.bool false)), (7, .d (.int .i64 at_)), (9, .d (.int .i64 n)), (10, .d (.int .i64 (i : Int)))], cells := [] } =
      some (.exit 0, { env := [(0, .d (.str s)), (1, .d (.int .i64 n)), (4, .d (.str [])), (5, .d (.str [])), (6, .d (.bool false)), (7, .d (.int .i64 ((at_ + a.length : Nat) : Int))), (9, .d (.int .i64 n)), (10, .d (.int .i64 n)), (11, .d (.bool false))], cells := [] })
    | none => ∃ σ, loopS (cfg m) s_script_cut_l0 [0, 1, 4, 5, 6, 7, 9, 10] [] { env := [(0, .d (.str s)), (1, .d (.int .i64 n)), (4, .d (.str [])), (5, .d (.str [])), (6, .d (.bool false)), (7, .d (.int .i64 at_)), (9, .d (.int .i64 n)), (10, .d (.int .i64 (i : Int)))], cells := [] } = some (.ret, σ) ∧
        σ.env.get 4 = .d (.str []) ∧ σ.env.get 5 = .d (.str []) ∧ σ.env.get 6 = .d (.bool false) := by
  intro k
  induction k with
  | zero =>
    intro i at_ hi hat
    have : (i : Int) = n := by omega
    subst this
    simp only [cutM]
    refine loopS_exit ?_
    simp [s_script_cut_l0]
  | succ k ih =>
    intro i at_ hi hat
    have hlt : (i : Int) < n := by omega
    have hge := Lib.indexByte_ge (s.drop at_) 10
    unfold cutM
    by_cases h0 : Lib.indexByte (s.drop at_) 10 < 0
    · rw [if_pos h0]
      refine ⟨_, loopS_ret (σ' := ?_) ?_, ?_⟩
      rotate_left
      · simp [s_script_cut_l0, hlt, hat, e_indexByte, h0]; exact rfl
      · simp
    · rw [if_neg h0]
      obtain ⟨j, hj⟩ : ∃ j : Nat, Lib.indexByte (s.drop at_) 10 = j := ⟨(Lib.indexByte (s.drop at_) 10).toNat, by omega⟩
      have hjl : at_ + j + 1 ≤ s.length := by
        rcases indexByte_lt (s.drop at_) 10 with h | h
        · rw [hj, List.length_drop] at h; omega
        · rw [h] at hj; simp [Lib.indexByte] at hj
      have hb : ∃ σ', evalS (cfg m) s_script_cut_l0 { env := [(0, .d (.str s)), (1, .d (.int .i64 n)), (4, .d (.str [])), (5, .d (.str [])), (6, .d (.bool false)), (7, .d (.int .i64 at_)), (9, .d (.int .i64 n)), (10, .d (.int .i64 (i : Int)))], cells := [] } = some (.normal, σ') ∧
          σ'.norm [0, 1, 4, 5, 6, 7, 9, 10] [] = { env := [(0, .d (.str s)), (1, .d (.int .i64 n)), (4, .d (.str [])), (5, .d (.str [])), (6, .d (.bool false)), (7, .d (.int .i64 ((at_ + (j + 1) : Nat) : Int))), (9, .d (.int .i64 n)), (10, .d (.int .i64 ((i + 1 : Nat) : Int)))], cells := [] } := by
        simp [s_script_cut_l0, hlt, hat, e_indexByte, hj, wrap_i64 ((i : Int) + 1) (by omega) (by omega), wrap_i64 ((j : Int) + 1) (by omega) (by omega), wrap_i64 ((at_ : Int) + (j + 1)) (by omega) (by omega)]
      obtain ⟨σ', h1, h2⟩ := hb
      have := ih (i + 1) (at_ + (j + 1)) (by omega) (by omega)
      rw [hj, Int.toNat_natCast, List.drop_drop]
      cases hq : cutM k (s.drop (at_ + (j + 1))) with
      | none =>
        rw [hq] at this
        obtain ⟨σ, g1, g2⟩ := this
        exact ⟨σ, loopS_step h1 (by rw [h2]; exact g1), g2⟩
      | some q =>
        obtain ⟨a, r⟩ := q
        rw [hq] at this
        simp only at this ⊢
        rw [loopS_step h1 (by rw [h2]; exact this)]
        have hlen : ((s.drop at_).take (j + 1)).length = j + 1 := by simp; omega
        rw [List.length_append, hlen, Nat.add_assoc]

theorem e_cut (s : List UInt8) (n : Int) (h0 : 0 ≤ n) (hn : n ≤ 9223372036854775807) (hs : s.length ≤ 4000000000) : ev1 (cfg m) 36 [.d (.str s), .d (.int .i64 n)] =
    some (match cutM n.toNat s with
      | some (a, r) => .tup [.d (.str a), .d (.str r), .d (.bool true)]
      | none => .tup [.d (.str []), .d (.str []), .d (.bool false)]) := by
  refine ev1_fn rfl rfl ?_ (by split <;> rfl)
  have h := cut_loop m s n hn hs n.toNat 0 0 (by omega) (by omega)
  rw [List.drop_zero] at h
  cases hq : cutM n.toNat s with
  | none =>
    rw [hq] at h
    obtain ⟨σ, h1, h2, h3, h4⟩ := h
    simp at h1
    simp [s_script_cut, h1, h2, h3, h4]
  | some q =>
    obtain ⟨a, r⟩ := q
    rw [hq] at h
    have e := cutM_spec _ _ _ _ hq
    simp at h
    simp [s_script_cut, h]
    have e1 : a.length ≤ s.length := by rw [e]; simp
    simp [indepAt, e1]
    rw [e]; simp
end Go.Ev.S
