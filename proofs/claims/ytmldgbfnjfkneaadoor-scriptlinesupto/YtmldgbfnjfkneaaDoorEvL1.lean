/- What a law is handed: commands; how large; the example of the chapter. -/
import Derived.Test.YtmldgbfnjfkneaaDoorEvE9
import Derived.Test.YtmldgbfnjfkneaaDoorKC
set_option linter.all false
set_option linter.unusedVariables false
set_option linter.unusedSimpArgs false
namespace Go.Ev.S
open Go.Proofs
variable (m : Int)

theorem ints_of : ∀ {l : List D}, WTl Tryd.prog 3 l → ∃ ns : List Int, l = ns.map (D.int .i64) ∧ ∀ n ∈ ns, -9223372036854775808 ≤ n ∧ n ≤ 9223372036854775807
  | [], _ => ⟨[], rfl, by simp⟩
  | x :: l, .cons h h' => by
    obtain ⟨n, rfl, h1, h2⟩ := WT_int (k := .i64) h (by kernel_rfl)
    obtain ⟨ns, rfl, h3⟩ := ints_of h'
    refine ⟨n :: ns, rfl, fun k hk => ?_⟩
    rcases List.mem_cons.1 hk with rfl | hk
    · exact ⟨h1, h2⟩
    · exact h3 k hk

theorem cmd_of {x : D} (h : WT Tryd.prog 42 x) : ∃ c : Cmd, x = c.d ∧ c.fits := by
  obtain ⟨l, rfl, g⟩ := WT_struct (ts := [5, 9, 9, 37]) h (by kernel_rfl)
  clear h
  cases g with
  | cons a h => cases h with
    | cons b h => cases h with
      | cons c h => cases h with
        | cons d h => cases h with
          | nil =>
            obtain ⟨k, rfl, k1, k2⟩ := WT_int (k := .u8) a (by kernel_rfl)
            obtain ⟨s, rfl⟩ := WT_str b (by kernel_rfl)
            obtain ⟨t, rfl⟩ := WT_str c (by kernel_rfl)
            obtain ⟨q, rfl, hq⟩ := WT_slice (e := 3) d (by kernel_rfl)
            obtain ⟨ns, rfl, hn⟩ := ints_of hq
            exact ⟨⟨k, s, t, ns⟩, rfl, k1, k2, hn⟩

theorem cmdl_of : ∀ {l : List D}, WTl Tryd.prog 42 l → ∃ cs : List Cmd, l = cs.map Cmd.d ∧ ∀ c ∈ cs, c.fits
  | [], _ => ⟨[], rfl, by simp⟩
  | x :: l, .cons h h' => by
    obtain ⟨c, rfl, h1⟩ := cmd_of h
    obtain ⟨cs, rfl, h3⟩ := cmdl_of h'
    refine ⟨c :: cs, rfl, fun k hk => ?_⟩
    rcases List.mem_cons.1 hk with rfl | hk
    · exact h1
    · exact h3 k hk

theorem cmds_of {x : D} (h : WT Tryd.prog 22 x) : ∃ cs : List Cmd, x = .sl (cs.map Cmd.d) ∧ ∀ c ∈ cs, c.fits := by
  obtain ⟨q, rfl, hq⟩ := WT_slice (e := 42) h (by kernel_rfl)
  obtain ⟨cs, rfl, h'⟩ := cmdl_of hq
  exact ⟨cs, rfl, h'⟩

@[simp] theorem slotHead_cmds (l : List Cmd) : slotHead 4 (l.map Cmd.d) = true := by cases l <;> simp [slotHead]

theorem bulks_ints : ∀ ns : List Int, D.bulks (ns.map (D.int .i64)) = ns.length
  | [] => rfl
  | n :: ns => by simp [D.bulks, D.bulk, bulks_ints ns]; omega
theorem bulk_cmd (c : Cmd) : D.bulk c.d = c.name.length + c.text.length + c.nums.length + 5 := by
  simp [Cmd.d, D.bulk, D.bulks, bulks_ints]; omega
theorem bulks_cmds : ∀ l : List Cmd, D.bulks (l.map Cmd.d) = 5 * l.length + sum1 l + sum2 l
  | [] => rfl
  | c :: l => by
    have := bulks_cmds l
    simp only [List.map_cons, D.bulks, bulk_cmd, this, sum1, sum2, List.map_cons, List.sum_cons, List.length_cons]; omega

theorem each_le : ∀ {l : List Cmd} {c : Cmd}, c ∈ l → c.name.length + c.text.length ≤ sum1 l ∧ c.nums.length ≤ sum2 l
  | d :: l, c, h => by
    simp only [sum1, sum2, List.map_cons, List.sum_cons]
    rcases List.mem_cons.1 h with rfl | h
    · omega
    · have := each_le h
      simp only [sum1, sum2] at this; omega

theorem fmt_len : ∀ {l : List Cmd}, (∀ c ∈ l, c.fits) → (∀ c ∈ l, c.text.length ≤ 4000000000) → (fmt l).length ≤ 100 * l.length + sum1 l + 22 * sum2 l
  | [], _, _ => by simp [fmt]
  | c :: l, h, ht => by
    have h1 := fmt1_len (h c (by simp)) (ht c (by simp))
    have h2 := fmt_len (l := l) (fun x hx => h x (by simp [hx])) (fun x hx => ht x (by simp [hx]))
    have e : fmt (c :: l) = fmt1 c ++ fmt l := by simp [fmt]
    rw [e]
    simp only [sum1, sum2, List.map_cons, List.sum_cons, List.length_cons, List.length_append] at *; omega

/-- All that a law needs of a script of bounded bulk. -/
structure Tame (l : List Cmd) : Prop where
  fits : ∀ c ∈ l, c.fits
  len : l.length ≤ 300000
  s1 : sum1 l ≤ 1200000
  s2 : sum2 l ≤ 1200000
  small : ∀ c ∈ l, c.small
  nums : ∀ c ∈ l, c.nums.length ≤ 2000000000
  fmt : (fmt l).length ≤ 90000000

theorem tame_of {l : List Cmd} (h : ∀ c ∈ l, c.fits) (hl : l.length ≤ 300000) (h1 : sum1 l ≤ 1200000) (h2 : sum2 l ≤ 1200000) : Tame l := by
  have k : ∀ c ∈ l, c.name.length ≤ 1200000 ∧ c.text.length ≤ 1200000 ∧ c.nums.length ≤ 1200000 := fun c hc => by have := each_le hc; omega
  have kf := fmt_len h (fun c hc => by have := (k c hc).2.1; omega)
  exact ⟨h, hl, h1, h2, fun c hc => by have := k c hc; unfold Cmd.small; omega, fun c hc => by have := k c hc; omega, by omega⟩

theorem tame_bulk {l : List Cmd} (h : ∀ c ∈ l, c.fits) (hb : D.bulk (.sl (l.map Cmd.d)) ≤ 1048576) : Tame l := by
  simp only [D.bulk, bulks_cmds] at hb
  exact tame_of h (by omega) (by omega) (by omega)

set_option maxRecDepth 100000 in
theorem e_awake : ev1 (cfg m) 9 [] = some (.d (.bool true)) := ev1_run 300 (by kernel_rfl) rfl

variable {l : List Cmd} (h : Tame l)
include h
theorem t_great : ev1 (cfg m) 10 [.d (.sl (l.map Cmd.d))] = some (.d (.bool (greatM l))) := e_great m l (by have := h.len; omega) (by have := h.s1; omega) (by have := h.s2; omega)
theorem t_given : ev1 (cfg m) 12 [.d (.sl (l.map Cmd.d))] = some (.d (.sl (l.map Cmd.d))) := e_given m l (by have := h.len; omega)
theorem t_plain : ev1 (cfg m) 16 [.d (.sl (l.map Cmd.d))] = some (.d (.sl (l.map Cmd.d))) := e_plain m l (by have := h.len; omega)
theorem t_same : ev1 (cfg m) 15 [.d (.sl (l.map Cmd.d)), .d (.sl (l.map Cmd.d))] = some (.d (.bool true)) := e_same m l (by have := h.len; omega) h.nums
theorem t_Valid : ev1 (cfg m) 13 [.d (.sl (l.map Cmd.d))] = some (.d (.bool (validL l))) := e_Valid m l (by have := h.len; omega) h.small
theorem t_Format : ev1 (cfg m) 11 [.d (.sl (l.map Cmd.d))] = some (.tup [.d (.str (if validL l then fmt l else [])), .d (.int .i64 (if validL l then 0 else 3))]) :=
  e_Format m l (by have := h.len; omega) h.small h.fits (by have := h.fmt; omega)
theorem t_Parse (hv : validL l = true) : ev1 (cfg m) 14 [.d (.str (fmt l))] = some (.tup [.d (.sl (l.map Cmd.d)), .d (.int .i64 0), .d (.int .i64 0)]) := by
  have := e_Parse m (fmt l) (by have := h.fmt; omega)
  rwa [parseM_fmt hv h.fits] at this
end Go.Ev.S
