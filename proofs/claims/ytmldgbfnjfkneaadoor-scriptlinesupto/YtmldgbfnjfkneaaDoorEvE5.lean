/- script.first. -/
import Derived.Test.YtmldgbfnjfkneaaDoorEvE4
import Derived.Lib.AtoiAllCases
set_option linter.all false
set_option linter.unusedVariables false
set_option linter.unusedSimpArgs false
namespace Go.Ev.S
open Go.Proofs
variable (m : Int)

theorem look_rows (w : List UInt8) : ∀ (rows : List ShRow), (rows.find? (fun r => r.word == w) = none ∧ keyAt (.str w) (rows.map fun r => D.str r.word) = some none) ∨
    ∃ i r, rows.find? (fun r => r.word == w) = some r ∧ keyAt (.str w) (rows.map fun r => D.str r.word) = some (some i) ∧ rows[i]? = some r
  | [] => .inl ⟨rfl, rfl⟩
  | x :: rows => by
    simp only [List.map_cons, keyAt, keyEq, List.find?_cons]
    by_cases h : w = x.word
    · have hb : (x.word == w) = true := by rw [h]; exact beq_self_eq_true _
      rw [hb]
      exact .inr ⟨0, x, rfl, by simp [h], rfl⟩
    · have hb : (x.word == w) = false := by
        rw [Bool.eq_false_iff]; intro e; exact h (beq_iff_eq.1 e).symm
      rw [hb]
      simp only [h, decide_false]
      rcases look_rows w rows with ⟨h1, h2⟩ | ⟨i, r, h1, h2, h3⟩
      · exact .inl ⟨h1, by rw [h2]⟩
      · exact .inr ⟨i + 1, r, h1, by rw [h2], by simpa using h3⟩

@[simp] theorem cast_succ_ne (n : Nat) : (((n : Int) + 1) = 0) = False := by simp; omega
@[simp] theorem take_len_map {α β : Type} (f : α → β) (l : List α) : (l.map f).take l.length = l.map f := by
  rw [← List.length_map (f := f), List.take_length]

/-- At the head of the loop over the numbers. -/
def numsSt (b41 : Bool) (line : List UInt8) (v5 : D) (ok b31 : Bool) (c6 : D) (kind : Int) (name : List UInt8) (L : List (List UInt8)) (i : Nat) (nums : List Int) : St :=
  { env := [(0, .d (.str line)), (2, .ptr 1000 0 []), (3, .d (.int .i64 0)), (4, .d (.bool false)), (5, .d v5), (6, .ptr 1544 0 []), (7, .d (.bool ok)), (8, .ptr 1780 0 []), (31, .d (.bool b31))] ++ (if b41 then [(41, .d (.bool false))] else []) ++ [(9, .own 3560), (49, .d (.sl (L.map .str))), (50, .d (.int .i64 L.length)), (51, .d (.int .i64 (i : Int)))],
    cells := [(1000, .var 39 (.agg [.d (.int .u8 0), .d (.str []), .d (.str []), .nils])), (1544, .var 48 (.d c6)), (1780, .var 39 (.agg [.d (.int .u8 kind), .d (.str name), .d (.str []), .nils])), (3560, .row 3 1 (nums.map (.int .i64)))] }
def numsKs (b41 : Bool) : List Nat := [0, 2, 3, 4, 5, 6, 7, 8, 31] ++ (if b41 then [41] else []) ++ [9, 49, 50, 51]

/-- Behind the loop. -/
def numsEx (b41 : Bool) (line : List UInt8) (v5 : D) (ok b31 : Bool) (c6 : D) (kind : Int) (name : List UInt8) (L : List (List UInt8)) (nums : List Int) : St :=
  { numsSt b41 line v5 ok b31 c6 kind name L L.length nums with env := (numsSt b41 line v5 ok b31 c6 kind name L L.length nums).env ++ [(52, .d (.bool false))] }

theorem e_atoi_canon (w : List UInt8) (h : w.length ≤ 4000000000) : (∃ v, canon w = some v ∧ ev1 (cfg m) 46 [.d (.str w)] = some (.tup [.d (.int .i64 v), .d .nilif]) ∧ Lib.itoa v = w ∧ -9223372036854775808 ≤ v ∧ v ≤ 9223372036854775807) ∨
    (canon w = none ∧ ((∃ v, ev1 (cfg m) 46 [.d (.str w)] = some (.tup [.d (.int .i64 v), .d .nilif]) ∧ ¬ Lib.itoa v = w ∧ -9223372036854775808 ≤ v ∧ v ≤ 9223372036854775807) ∨ (∃ v, ev1 (cfg m) 46 [.d (.str w)] = some (.tup [.d (.int .i64 v), .d .err])))) := by
  rw [e_atoi m w h]
  unfold canon atoiV
  cases ha : Lib.atoiAll w with
  | ok v =>
    have hb := Lib.atoiAll_bounds ha
    by_cases hc : Lib.itoa v = w
    · exact .inl ⟨v, by simp [hc], rfl, hc, hb⟩
    · exact .inr ⟨by simp [hc], .inl ⟨v, rfl, hc, hb⟩⟩
  | range => exact .inr ⟨rfl, .inr ⟨_, rfl⟩⟩
  | _ => exact .inr ⟨rfl, .inr ⟨_, rfl⟩⟩

set_option maxHeartbeats 1000000 in
theorem nums_loop (b41 : Bool) (line : List UInt8) (v5 : D) (ok b31 : Bool) (c6 : D) (kind : Int) (name : List UInt8) (L : List (List UInt8)) (hL : ∀ w ∈ L, w.length ≤ 4000000000) (hlen : L.length ≤ 4000000000) :
    ∀ (k i : Nat) (nums : List Int), i + k = L.length → nums.length = i →
    match canons (L.drop i) with
    | some ns => loopS (cfg m) s_script_first_l0 (numsKs b41) [1000, 1544, 1780, 3560] (numsSt b41 line v5 ok b31 c6 kind name L i nums) = some (.exit 0, numsEx b41 line v5 ok b31 c6 kind name L (nums ++ ns))
    | none => ∃ σ x cs, loopS (cfg m) s_script_first_l0 (numsKs b41) [1000, 1544, 1780, 3560] (numsSt b41 line v5 ok b31 c6 kind name L i nums) = some (.ret, σ) ∧ result [.cell 2 4 true, .tmp 3, .tmp 4] σ = some (.tup [.d x, .d (.int .i64 0), .d (.bool false)], cs) ∧ x.size = 4 := by
  intro k
  induction k with
  | zero =>
    intro i nums hi hn
    have : i = L.length := by omega
    subst this
    rw [List.drop_length]
    simp only [canons]
    refine loopS_exit ?_
    cases b41 <;> simp [s_script_first_l0, numsSt, numsEx]
  | succ k ih =>
    intro i nums hi hn
    have hlt : i < L.length := by omega
    have hd : L.drop i = L[i] :: L.drop (i + 1) := List.drop_eq_getElem_cons hlt
    rw [hd]
    rcases e_atoi_canon m L[i] (hL _ (List.getElem_mem hlt)) with ⟨v, h1, h2, h3, h4⟩ | ⟨h1, ⟨v, h2, h3, h4⟩ | ⟨v, h2⟩⟩
    · have hb : ∃ σ', evalS (cfg m) s_script_first_l0 (numsSt b41 line v5 ok b31 c6 kind name L i nums) = some (.normal, σ') ∧ σ'.norm (numsKs b41) [1000, 1544, 1780, 3560] = numsSt b41 line v5 ok b31 c6 kind name L (i + 1) (nums ++ [v]) := by
        have hw1 := wrap_i64 ((i : Int) + 1) (by omega) (by omega)
        have hw2 : nums.length + 1 ≤ 140737488355328 ∧ (nums.length + 1) * 8 ≤ 140737488355328 := by omega
        cases b41 <;> simp [s_script_first_l0, numsSt, numsKs, hlt, h2, e_itoa m v h4, h3, hw1, hw2]
      obtain ⟨σ', g1, g2⟩ := hb
      have := ih (i + 1) (nums ++ [v]) (by omega) (by simp [hn])
      simp only [canons, h1]
      cases hq : canons (L.drop (i + 1)) with
      | none =>
        rw [hq] at this
        obtain ⟨σ, x, cs, k1, k2⟩ := this
        exact ⟨σ, x, cs, loopS_step g1 (by rw [g2]; exact k1), k2⟩
      | some ns =>
        rw [hq] at this
        simp only at this ⊢
        rw [loopS_step g1 (by rw [g2]; exact this), List.append_assoc]; rfl
    · simp only [canons, h1]
      have hb : ∃ σ' x cs, evalS (cfg m) s_script_first_l0 (numsSt b41 line v5 ok b31 c6 kind name L i nums) = some (.ret, σ') ∧ result [.cell 2 4 true, .tmp 3, .tmp 4] σ' = some (.tup [.d x, .d (.int .i64 0), .d (.bool false)], cs) ∧ x.size = 4 := by
        cases b41 <;> simp [s_script_first_l0, numsSt, numsKs, hlt, h2, e_itoa m v h4, h3]
      obtain ⟨σ', x, cs, g1, g2⟩ := hb
      exact ⟨σ', x, cs, loopS_ret g1, g2⟩
    · simp only [canons, h1]
      have hb : ∃ σ' x cs, evalS (cfg m) s_script_first_l0 (numsSt b41 line v5 ok b31 c6 kind name L i nums) = some (.ret, σ') ∧ result [.cell 2 4 true, .tmp 3, .tmp 4] σ' = some (.tup [.d x, .d (.int .i64 0), .d (.bool false)], cs) ∧ x.size = 4 := by
        cases b41 <;> simp [s_script_first_l0, numsSt, numsKs, hlt, h2]
      obtain ⟨σ', x, cs, g1, g2⟩ := hb
      exact ⟨σ', x, cs, loopS_ret g1, g2⟩

theorem splitK_ne (sep : List UInt8) (save : Nat) : ∀ (k : Nat) (s : List UInt8), Lib.splitK sep save k s ≠ []
  | 0, s => by simp [Lib.splitK]
  | k + 1, s => by unfold Lib.splitK; split <;> simp
theorem splitK_len (sep : List UInt8) : ∀ (k : Nat) (s : List UInt8), ∀ w ∈ Lib.splitK sep 0 k s, w.length ≤ s.length
  | 0, s, w, h => by simp [Lib.splitK] at h; subst h; omega
  | k + 1, s, w, h => by
    unfold Lib.splitK at h
    split at h
    · simp at h; subst h; omega
    · rcases List.mem_cons.1 h with rfl | h
      · simp; omega
      · have := splitK_len sep k _ w h
        simp at this; omega
theorem splitK_count (sep : List UInt8) (save : Nat) : ∀ (k : Nat) (s : List UInt8), (Lib.splitK sep save k s).length ≤ k + 1
  | 0, s => by simp [Lib.splitK]
  | k + 1, s => by
    unfold Lib.splitK
    split
    · simp
    · have := splitK_count sep save k (s.drop ((Lib.index s sep).toNat + sep.length))
      simp; omega
theorem canons_len : ∀ {L : List (List UInt8)} {ns : List Int}, canons L = some ns → ns.length = L.length
  | [], ns, h => by simp [canons] at h; subst h; rfl
  | w :: L, ns, h => by
    simp only [canons] at h
    cases hc : canon w with
    | none => simp [hc] at h
    | some n =>
      simp only [hc] at h
      cases hq : canons L with
      | none => simp [hq] at h
      | some r => simp only [hq, Option.some.injEq] at h; subst h; simp [canons_len hq]

theorem split_words (line : List UInt8) (hl : line.length ≤ 4000000000) : ∃ w ws, Lib.split line [32] = w :: ws ∧ (∀ x ∈ w :: ws, x.length ≤ 4000000000) ∧ ws.length ≤ 4000000000 := by
  cases h : Lib.split line [32] with
  | nil => exact absurd h (splitK_ne _ _ _ _)
  | cons w ws =>
    refine ⟨w, ws, rfl, fun x hx => ?_, ?_⟩
    · have := splitK_len [32] _ line x (by unfold Lib.split at h; rw [h]; exact hx)
      omega
    · have := splitK_count [32] 0 (Lib.count line [32]) line
      unfold Lib.split at h
      rw [h, Lib.count_one] at this
      have h2 := List.count_le_length (a := (32 : UInt8)) (l := line)
      simp at this; omega

/-- The end of 'first', behind the loop. -/
theorem first_tail (b41 : Bool) (line : List UInt8) (v5 : D) (ok b31 : Bool) (kind : Int) (name : List UInt8) (rk : Int) (rn rt : Bool) (rm : Int) (L : List (List UInt8)) (ns : List Int) (hn : ns.length ≤ 4000000000) : True := trivial
end Go.Ev.S
