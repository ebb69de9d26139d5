/- The law's helpers: great, given, plain, same. -/
import Derived.Test.YtmldgbfnjfkneaaDoorEvE8
set_option linter.all false
set_option linter.unusedVariables false
set_option linter.unusedSimpArgs false
namespace Go.Ev.S
open Go.Proofs
variable (m : Int)

theorem e_given (l : List Cmd) (hl : l.length ≤ 2000000000) : ev1 (cfg m) 12 [.d (.sl (l.map Cmd.d))] = some (.d (.sl (l.map Cmd.d))) := by
  refine ev1_fn rfl rfl ?_ rfl
  have h := loopS_upto (C := cfg m) (c := s_backsteplaw51_given_l0) (ks := [0, 2, 3, 4]) (ts := [1000, 1256]) (fun i => { env := [(0, .d (.sl (l.map Cmd.d))), (2, .own 1000), (3, .own 1256), (4, .d (.int .i64 (i : Int)))], cells := [(1000, .row 39 4 []), (1256, .row 39 4 ((l.take i).map Cmd.d))] }) l.length (x := .exit 0)
    (σ := { env := [(0, .d (.sl (l.map Cmd.d))), (2, .own 1000), (3, .own 1256), (4, .d (.int .i64 (l.length : Int))), (8, .d (.bool false))], cells := [(1000, .row 39 4 []), (1256, .row 39 4 (l.map Cmd.d))] }) (by simp)
    (fun i hi => by
      have hw := wrap_i64 ((i : Int) + 1) (by omega) (by omega)
      have hmin : min i l.length = i := by omega
      have hc : i + 1 ≤ 140737488355328 ∧ (i + 1) * 64 ≤ 140737488355328 := by omega
      simp [s_backsteplaw51_given_l0, hi, hw, hmin, hc]
      rw [List.take_add_one]; simp [hi])
    (by simp [s_backsteplaw51_given_l0])
  simp at h
  simp [s_backsteplaw51_given, h]

theorem e_plain (l : List Cmd) (hl : l.length ≤ 2000000000) : ev1 (cfg m) 16 [.d (.sl (l.map Cmd.d))] = some (.d (.sl (l.map Cmd.d))) := by
  refine ev1_fn rfl rfl ?_ rfl
  have h := loopS_upto (C := cfg m) (c := s_backsteplaw51_plain_l0) (ks := [0, 2, 3, 4]) (ts := [1000, 1256]) (fun i => { env := [(0, .d (.sl (l.map Cmd.d))), (2, .own 1000), (3, .own 1256), (4, .d (.int .i64 (i : Int)))], cells := [(1000, .row 42 4 []), (1256, .row 42 4 ((l.take i).map Cmd.d))] }) l.length (x := .exit 0)
    (σ := { env := [(0, .d (.sl (l.map Cmd.d))), (2, .own 1000), (3, .own 1256), (4, .d (.int .i64 (l.length : Int))), (8, .d (.bool false))], cells := [(1000, .row 42 4 []), (1256, .row 42 4 (l.map Cmd.d))] }) (by simp)
    (fun i hi => by
      have hw := wrap_i64 ((i : Int) + 1) (by omega) (by omega)
      have hmin : min i l.length = i := by omega
      have hc : i + 1 ≤ 140737488355328 ∧ (i + 1) * 64 ≤ 140737488355328 := by omega
      simp [s_backsteplaw51_plain_l0, hi, hw, hmin, hc]
      rw [List.take_add_one]; simp [hi])
    (by simp [s_backsteplaw51_plain_l0])
  simp at h
  simp [s_backsteplaw51_plain, h]

def sum1 (l : List Cmd) : Nat := (l.map fun c => c.text.length + c.name.length).sum
def sum2 (l : List Cmd) : Nat := (l.map fun c => c.nums.length).sum
def greatM (l : List Cmd) : Bool := decide (1010 < l.length) || decide (50000 < sum1 l) || decide (5000 < sum2 l)
theorem sum_take_le (f : Cmd → Nat) (l : List Cmd) (i : Nat) : ((l.take i).map f).sum ≤ (l.map f).sum := by
  conv => rhs; rw [← List.take_append_drop i l]
  rw [List.map_append, List.sum_append]; omega

theorem e_great (l : List Cmd) (hl : l.length ≤ 2000000000) (h1 : sum1 l ≤ 2000000000) (h2 : sum2 l ≤ 2000000000) : ev1 (cfg m) 10 [.d (.sl (l.map Cmd.d))] = some (.d (.bool (greatM l))) := by
  refine ev1_fn rfl rfl ?_ rfl
  have h := loopS_upto (C := cfg m) (c := s_backsteplaw51_great_l0) (ks := [0, 2, 3, 4, 7, 8]) (ts := []) (fun i => { env := [(0, .d (.sl (l.map Cmd.d))), (2, .d (.bool false)), (3, .d (.int .i64 (sum1 (l.take i)))), (4, .d (.int .i64 (sum2 (l.take i)))), (7, .d (.int .i64 l.length)), (8, .d (.int .i64 (i : Int)))], cells := [] }) l.length (x := .exit 0)
    (σ := { env := [(0, .d (.sl (l.map Cmd.d))), (2, .d (.bool false)), (3, .d (.int .i64 (sum1 l))), (4, .d (.int .i64 (sum2 l))), (7, .d (.int .i64 l.length)), (8, .d (.int .i64 l.length)), (9, .d (.bool false))], cells := [] }) (by simp)
    (fun i hi => by
      have hw := wrap_i64 ((i : Int) + 1) (by omega) (by omega)
      have ht : l.take (i + 1) = l.take i ++ [l[i]] := by rw [List.take_add_one]; simp [hi]
      have e1 : sum1 (l.take (i + 1)) = sum1 (l.take i) + l[i].text.length + l[i].name.length := by rw [ht]; unfold sum1; rw [List.map_append, List.sum_append]; simp [-List.map_take]; omega
      have e2 : sum2 (l.take (i + 1)) = sum2 (l.take i) + l[i].nums.length := by rw [ht]; unfold sum2; rw [List.map_append, List.sum_append]; simp [-List.map_take]
      have b1 : sum1 (l.take (i + 1)) ≤ sum1 l := sum_take_le _ l (i + 1)
      have b2 : sum2 (l.take (i + 1)) ≤ sum2 l := sum_take_le _ l (i + 1)
      rw [e1, e2]
      rw [e1] at b1
      rw [e2] at b2
      have hget0 : l[i]? = some l[i] := List.getElem?_eq_getElem hi
      generalize l[i] = c at *
      obtain ⟨k, name, text, nums⟩ := c
      simp only at b1 b2
      have w1 := wrap_i64 ((sum1 (l.take i) : Int) + text.length) (by omega) (by omega)
      have w2 := wrap_i64 ((sum1 (l.take i) : Int) + text.length + name.length) (by omega) (by omega)
      have w3 := wrap_i64 ((sum2 (l.take i) : Int) + nums.length) (by omega) (by omega)
      have hhi : (i : Int) < l.length := by omega
      simp [s_backsteplaw51_great_l0, hhi, hget0, hw, w1, w2, w3, Cmd.d])
    (by simp [s_backsteplaw51_great_l0])
  have s1 : sum1 (l.take 0) = 0 := by simp [sum1]
  have s2 : sum2 (l.take 0) = 0 := by simp [sum2]
  simp [s1, s2, -List.take_zero] at h
  simp [s_backsteplaw51_great, h]
  have c1 : ((1010 : Int) < l.length) = (1010 < l.length) := by rw [eq_iff_iff]; omega
  have c2 : ((50000 : Int) < sum1 l) = (50000 < sum1 l) := by rw [eq_iff_iff]; omega
  have c3 : ((5000 : Int) < sum2 l) = (5000 < sum2 l) := by rw [eq_iff_iff]; omega
  unfold greatM
  by_cases g1 : 1010 < l.length
  · simp [c1, g1]
  · by_cases g2 : 50000 < sum1 l
    · simp [c1, c2, g1, g2]
    · simp [c1, c2, c3, g1, g2]

theorem same_in (l : List Cmd) (i : Nat) (hi : i < l.length) (hl : l.length ≤ 2000000000) (c : Cmd) (hc : l[i]? = some c) (hn : c.nums.length ≤ 2000000000) :
    loopS (cfg m) s_backsteplaw51_same_l0 [0, 1, 4, 11, 13, 14, 15, 5, 68, 74, 75] [] { env := [(0, .d (.sl (l.map Cmd.d))), (1, .d (.sl (l.map Cmd.d))), (4, .d (.bool false)), (11, .d (.bool false)), (13, .d (.int .i64 l.length)), (14, .d (.int .i64 i)), (15, .d (.bool true)), (5, .d (.int .i64 i)), (68, .d (.bool false)), (74, .d (.int .i64 c.nums.length)), (75, .d (.int .i64 0))], cells := [] } =
      some (.exit 2, { env := [(0, .d (.sl (l.map Cmd.d))), (1, .d (.sl (l.map Cmd.d))), (4, .d (.bool false)), (11, .d (.bool false)), (13, .d (.int .i64 l.length)), (14, .d (.int .i64 i)), (15, .d (.bool true)), (5, .d (.int .i64 i)), (68, .d (.bool false)), (74, .d (.int .i64 c.nums.length)), (75, .d (.int .i64 c.nums.length)), (76, .d (.bool false))], cells := [] }) := by
  have h := loopS_upto (C := cfg m) (c := s_backsteplaw51_same_l0) (ks := [0, 1, 4, 11, 13, 14, 15, 5, 68, 74, 75]) (ts := []) (fun j => { env := [(0, .d (.sl (l.map Cmd.d))), (1, .d (.sl (l.map Cmd.d))), (4, .d (.bool false)), (11, .d (.bool false)), (13, .d (.int .i64 l.length)), (14, .d (.int .i64 i)), (15, .d (.bool true)), (5, .d (.int .i64 i)), (68, .d (.bool false)), (74, .d (.int .i64 c.nums.length)), (75, .d (.int .i64 (j : Int)))], cells := [] }) c.nums.length (x := .exit 2)
    (σ := { env := [(0, .d (.sl (l.map Cmd.d))), (1, .d (.sl (l.map Cmd.d))), (4, .d (.bool false)), (11, .d (.bool false)), (13, .d (.int .i64 l.length)), (14, .d (.int .i64 i)), (15, .d (.bool true)), (5, .d (.int .i64 i)), (68, .d (.bool false)), (74, .d (.int .i64 c.nums.length)), (75, .d (.int .i64 c.nums.length)), (76, .d (.bool false))], cells := [] }) (by simp)
    (fun j hj => by
      have hw := wrap_i64 ((j : Int) + 1) (by omega) (by omega)
      obtain ⟨k, name, text, nums⟩ := c
      simp only at hj
      have hhj : (j : Int) < nums.length := by omega
      simp [s_backsteplaw51_same_l0, hc, hj, hw, Cmd.d])
    (by simp [s_backsteplaw51_same_l0])
  simpa using h

theorem e_same (l : List Cmd) (hl : l.length ≤ 2000000000) (hn : ∀ c ∈ l, c.nums.length ≤ 2000000000) : ev1 (cfg m) 15 [.d (.sl (l.map Cmd.d)), .d (.sl (l.map Cmd.d))] = some (.d (.bool true)) := by
  refine ev1_fn rfl rfl ?_ rfl
  have h := loopS_upto (C := cfg m) (c := s_backsteplaw51_same_l1) (ks := [0, 1, 4, 11, 13, 14]) (ts := []) (fun i => { env := [(0, .d (.sl (l.map Cmd.d))), (1, .d (.sl (l.map Cmd.d))), (4, .d (.bool false)), (11, .d (.bool false)), (13, .d (.int .i64 l.length)), (14, .d (.int .i64 (i : Int)))], cells := [] }) l.length (x := .exit 0)
    (σ := { env := [(0, .d (.sl (l.map Cmd.d))), (1, .d (.sl (l.map Cmd.d))), (4, .d (.bool false)), (11, .d (.bool false)), (13, .d (.int .i64 l.length)), (14, .d (.int .i64 l.length)), (15, .d (.bool false))], cells := [] }) (by simp)
    (fun i hi => by
      have hw := wrap_i64 ((i : Int) + 1) (by omega) (by omega)
      have hc0 : l[i]? = some l[i] := List.getElem?_eq_getElem hi
      have hnn := hn l[i] (List.getElem_mem hi)
      generalize l[i] = c at *
      have hin := same_in m l i hi hl c hc0 hnn
      obtain ⟨k, name, text, nums⟩ := c
      have hhi : (i : Int) < l.length := by omega
      simp [s_backsteplaw51_same_l1, hhi, hc0, Cmd.d]
      simp at hin
      rw [hin]
      simp [hw])
    (by simp [s_backsteplaw51_same_l1])
  simp at h
  simp [s_backsteplaw51_same, h]
end Go.Ev.S
