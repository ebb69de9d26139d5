/- A verified evaluator of loaded functions, part KE: what it computes, the machine does. Plain texts joined. -/
import Derived.Test.YtglggojbbenobaaGreatDoorKD
import Derived.Lib.AtoiAllCases
set_option linter.all false

/- Machine code, plainly: instructions, their text and their bytes, and the reading of both. No program in sight. -/
section
set_option linter.all false
namespace Go.Ev.A
open Go.Proofs Go.Ev.S

def mnTab : List (List UInt8) := [[110, 111, 112], [97, 100, 100], [115, 117, 98], [120, 111, 114], [97, 100, 100, 105], [115, 117, 98, 105], [120, 111, 114, 105], [115, 119, 97, 112], [110, 101, 103], [99, 97, 108, 99], [109, 101, 109], [105, 100, 120], [112, 117, 115, 104], [112, 111, 112], [116, 111, 112], [115, 105, 122, 101], [115, 119, 97, 112, 115], [114, 101, 97, 100], [117, 110, 114, 101, 97, 100], [119, 114, 105, 116, 101], [117, 110, 119, 114, 105, 116, 101], [122, 101, 114, 111], [106, 109, 112], [106, 109, 112, 122], [106, 109, 112, 110], [108, 97, 110, 100], [108, 97, 110, 100, 122], [108, 97, 110, 100, 110], [102, 114, 97, 109, 101], [117, 110, 102, 114, 97, 109, 101], [99, 97, 108, 108], [117, 110, 99, 97, 108, 108], [115, 116, 97, 114, 116], [101, 110, 100], [104, 97, 108, 116]]
def clTab : List (List UInt8) := [[], [114, 114], [114, 114], [114, 114], [114, 110], [114, 110], [114, 110], [114, 114], [114], [114, 114, 114, 111], [114, 107], [114, 114, 107, 107], [114, 107], [114, 107], [114, 107], [114, 107], [107, 107], [114], [114], [114], [114], [114, 101], [116], [114, 116], [114, 116], [116], [114, 116], [114, 116], [107, 107], [107, 107], [116], [116], [116], [116], []]
def syTab : List (List UInt8) := [[43], [45], [42], [47], [37], [38], [124], [94], [61, 61], [33, 61], [60], [60, 61], [62], [62, 61], [38, 38], [124, 124]]

structure Ins where
  op : Int
  a : Int
  b : Int
  c : Int
  d : Int
  deriving DecidableEq, Inhabited

def i64 (n : Int) : Prop := -9223372036854775808 ≤ n ∧ n ≤ 9223372036854775807
def Ins.fits (i : Ins) : Prop := (0 ≤ i.op ∧ i.op ≤ 255) ∧ i64 i.a ∧ i64 i.b ∧ i64 i.c ∧ i64 i.d
def Ins.args (i : Ins) : List Int := [i.a, i.b, i.c, i.d]

def cls (op : Int) : Option (List UInt8) := if op < 0 then none else clTab[op.toNat]?
def mnem (op : Int) : List UInt8 := if op < 0 then [] else (mnTab[op.toNat]?).getD []
def sym (x : Int) : List UInt8 := if x < 8 then [] else (syTab[(x - 8).toNat]?).getD []

def fitsC (c : UInt8) (x : Int) : Bool :=
  if c = 114 then decide (0 ≤ x ∧ x < 16) else if c = 107 then decide (0 ≤ x ∧ x ≤ 16384) else if c = 116 then decide (0 ≤ x ∧ x < 65536)
  else if c = 101 then decide (1 ≤ x ∧ x ≤ 23) else if c = 111 then decide (8 ≤ x ∧ x ≤ 23) else true

def argsOk : List UInt8 → List Int → Bool
  | _, [] => true
  | [], x :: xs => decide (x = 0) && argsOk [] xs
  | c :: cs, x :: xs => fitsC c x && argsOk cs xs

def apartI (i : Ins) : Bool :=
  if i.op = 1 ∨ i.op = 2 ∨ i.op = 3 ∨ i.op = 11 then decide (i.a ≠ i.b) else if i.op = 9 then decide (i.a ≠ i.b) && decide (i.a ≠ i.c) else true

def validI (i : Ins) : Bool :=
  match cls i.op with
  | none => false
  | some cs => argsOk cs i.args && apartI i

/-! ## Text -/
def word (c : UInt8) (x : Int) : List UInt8 := if c = 114 then 114 :: Lib.itoa x else if c = 111 then sym x else Lib.itoa x
def wordsA : List UInt8 → List Int → List (List UInt8)
  | c :: cs, x :: xs => word c x :: wordsA cs xs
  | _, _ => []
def tailA : List (List UInt8) → List UInt8
  | [] => []
  | w :: ws => 32 :: (w ++ tailA ws)
def clsD (op : Int) : List UInt8 := (cls op).getD []
def wordsI (i : Ins) : List (List UInt8) := mnem i.op :: wordsA (clsD i.op) i.args
def lineI (i : Ins) : List UInt8 := mnem i.op ++ tailA (wordsA (clsD i.op) i.args)
def textI (l : List Ins) : List UInt8 := (l.map fun i => lineI i ++ [10]).flatten

theorem lineI_join (i : Ins) : lineI i = Lib.join (wordsI i) [32] := by
  unfold lineI wordsI
  generalize wordsA (clsD i.op) i.args = ws
  generalize mnem i.op = w
  induction ws generalizing w with
  | nil => simp [tailA, join_one]
  | cons v ws ih => rw [join_cons, ← ih v]; simp [tailA]

theorem cls_some {op : Int} {cs : List UInt8} (h : cls op = some cs) : 0 ≤ op ∧ op ≤ 34 ∧ op.toNat < 35 := by
  unfold cls at h
  split at h
  · cases h
  · have := (List.getElem?_eq_some_iff.1 h).1
    have e : clTab.length = 35 := rfl
    omega

theorem cls_of {op : Int} (h0 : 0 ≤ op) (h1 : op ≤ 34) : ∃ cs, cls op = some cs := by
  unfold cls
  rw [if_neg (by omega)]
  exact ⟨_, List.getElem?_eq_getElem (by have e : clTab.length = 35 := rfl; omega)⟩

theorem tab_all {p : Nat → Prop} [DecidablePred p] (h : ∀ k : Fin 35, p k.val) {op : Int} {cs : List UInt8} (hc : cls op = some cs) : p op.toNat :=
  h ⟨op.toNat, (cls_some hc).2.2⟩

theorem mn_nodup : ∀ j k : Fin 35, mnTab[j.val]? = mnTab[k.val]? → j = k := by decide
theorem mn_clean : ∀ k : Fin 35, ∀ b ∈ (mnTab[k.val]?).getD [], b ≠ 32 ∧ b ≠ 10 := by decide
theorem sy_clean : ∀ k : Fin 16, ∀ b ∈ (syTab[k.val]?).getD [], b ≠ 32 ∧ b ≠ 10 := by decide
theorem sy_nodup : ∀ j k : Fin 16, syTab[j.val]? = syTab[k.val]? → j = k := by decide
theorem cl_len : ∀ k : Fin 35, ((clTab[k.val]?).getD []).length ≤ 4 := by decide
theorem cl_mem : ∀ k : Fin 35, ∀ b ∈ (clTab[k.val]?).getD [], b = 114 ∨ b = 107 ∨ b = 116 ∨ b = 101 ∨ b = 111 ∨ b = 110 := by decide

theorem clsD_tab {op : Int} {cs : List UInt8} (h : cls op = some cs) : cs = (clTab[op.toNat]?).getD [] ∧ mnem op = (mnTab[op.toNat]?).getD [] := by
  obtain ⟨h0, _, h2⟩ := cls_some h
  unfold cls at h; rw [if_neg (by omega)] at h
  unfold mnem; rw [if_neg (by omega), h]
  exact ⟨rfl, rfl⟩

theorem cls_len {op : Int} {cs : List UInt8} (h : cls op = some cs) : cs.length ≤ 4 := by
  rw [(clsD_tab h).1]; exact cl_len ⟨_, (cls_some h).2.2⟩
theorem cls_mem {op : Int} {cs : List UInt8} (h : cls op = some cs) : ∀ b ∈ cs, b = 114 ∨ b = 107 ∨ b = 116 ∨ b = 101 ∨ b = 111 ∨ b = 110 := by
  rw [(clsD_tab h).1]; exact cl_mem ⟨_, (cls_some h).2.2⟩
theorem mnem_clean {op : Int} {cs : List UInt8} (h : cls op = some cs) : ∀ b ∈ mnem op, b ≠ 32 ∧ b ≠ 10 := by
  rw [(clsD_tab h).2]; exact mn_clean ⟨_, (cls_some h).2.2⟩
theorem mnem_inj {op op' : Int} {cs cs' : List UInt8} (h : cls op = some cs) (h' : cls op' = some cs') (e : mnem op = mnem op') : op = op' := by
  rw [(clsD_tab h).2, (clsD_tab h').2] at e
  have l1 := (cls_some h).2.2
  have l2 := (cls_some h').2.2
  have e1 : mnTab.length = 35 := rfl
  have : mnTab[op.toNat]? = mnTab[op'.toNat]? := by
    rw [List.getElem?_eq_getElem (by omega), List.getElem?_eq_getElem (by omega)] at e ⊢
    simpa using e
  have := congrArg Fin.val (mn_nodup ⟨_, l1⟩ ⟨_, l2⟩ this)
  have a1 := (cls_some h).1
  have a2 := (cls_some h').1
  simp at this; omega

theorem sym_tab {x : Int} (h : 8 ≤ x ∧ x ≤ 23) : (x - 8).toNat < 16 ∧ sym x = (syTab[(x - 8).toNat]?).getD [] := by
  refine ⟨by omega, ?_⟩
  unfold sym; rw [if_neg (by omega)]
theorem sym_inj {x y : Int} (h : 8 ≤ x ∧ x ≤ 23) (h' : 8 ≤ y ∧ y ≤ 23) (e : sym x = sym y) : x = y := by
  obtain ⟨l1, e1⟩ := sym_tab h
  obtain ⟨l2, e2⟩ := sym_tab h'
  rw [e1, e2] at e
  have e3 : syTab.length = 16 := rfl
  have : syTab[(x - 8).toNat]? = syTab[(y - 8).toNat]? := by
    rw [List.getElem?_eq_getElem (by omega), List.getElem?_eq_getElem (by omega)] at e ⊢
    simpa using e
  have := congrArg Fin.val (sy_nodup ⟨_, l1⟩ ⟨_, l2⟩ this)
  simp at this; omega

theorem itoa_inj {x y : Int} (hx : i64 x) (hy : i64 y) (e : Lib.itoa x = Lib.itoa y) : x = y := by
  have h1 := atoi_itoa hx.1 hx.2
  have h2 := atoi_itoa hy.1 hy.2
  rw [e, h2] at h1
  cases h1; rfl

theorem word_clean {c : UInt8} {x : Int} (hf : fitsC c x = true) : ∀ b ∈ word c x, b ≠ 32 ∧ b ≠ 10 := by
  intro b hb
  unfold word at hb
  split at hb
  · rcases List.mem_cons.1 hb with rfl | hb
    · decide
    · exact itoa_clean x b hb
  · split at hb
    · rename_i h1 h2
      subst h2
      have : 8 ≤ x ∧ x ≤ 23 := by simpa [fitsC] using hf
      obtain ⟨l1, e1⟩ := sym_tab this
      rw [e1] at hb
      exact sy_clean ⟨_, l1⟩ b hb
    · exact itoa_clean x b hb

theorem word_inj {c : UInt8} {x y : Int} (hx : i64 x) (hy : i64 y) (hf : fitsC c x = true) (hf' : fitsC c y = true) (e : word c x = word c y) : x = y := by
  unfold word at e
  split at e
  · exact itoa_inj hx hy (by simpa using e)
  · split at e
    · rename_i h1 h2
      subst h2
      exact sym_inj (by simpa [fitsC] using hf) (by simpa [fitsC] using hf') e
    · exact itoa_inj hx hy e

theorem words_clean : ∀ {cs : List UInt8} {xs : List Int}, argsOk cs xs = true → ∀ w ∈ wordsA cs xs, ∀ b ∈ w, b ≠ 32 ∧ b ≠ 10
  | [], xs, _, w, hw, _, _ => by simp [wordsA] at hw
  | c :: cs, [], _, w, hw, _, _ => by simp [wordsA] at hw
  | c :: cs, x :: xs, h, w, hw, b, hb => by
    simp only [argsOk, Bool.and_eq_true] at h
    simp only [wordsA, List.mem_cons] at hw
    rcases hw with rfl | hw
    · exact word_clean h.1 b hb
    · exact words_clean h.2 w hw b hb

theorem words_inj : ∀ {cs : List UInt8} {xs ys : List Int}, xs.length = ys.length → argsOk cs xs = true → argsOk cs ys = true → (∀ x ∈ xs, i64 x) → (∀ y ∈ ys, i64 y) → wordsA cs xs = wordsA cs ys → xs = ys
  | _, [], [], _, _, _, _, _, _ => rfl
  | _, [], _ :: _, h, _, _, _, _, _ => by simp at h
  | _, _ :: _, [], h, _, _, _, _, _ => by simp at h
  | [], x :: xs, y :: ys, hl, h1, h2, hx, hy, _ => by
    simp only [argsOk, Bool.and_eq_true, decide_eq_true_eq] at h1 h2
    rw [h1.1, h2.1, words_inj (cs := []) (by simpa using hl) h1.2 h2.2 (fun z hz => hx z (by simp [hz])) (fun z hz => hy z (by simp [hz])) (by simp [wordsA])]
  | c :: cs, x :: xs, y :: ys, hl, h1, h2, hx, hy, e => by
    simp only [argsOk, Bool.and_eq_true] at h1 h2
    simp only [wordsA, List.cons.injEq] at e
    rw [word_inj (hx x (by simp)) (hy y (by simp)) h1.1 h2.1 e.1, words_inj (by simpa using hl) h1.2 h2.2 (fun z hz => hx z (by simp [hz])) (fun z hz => hy z (by simp [hz])) e.2]

structure IsLine (i : Ins) (s : List UInt8) : Prop where
  fits : i.fits
  valid : validI i = true
  line : lineI i = s

theorem valid_inv {i : Ins} (h : validI i = true) : ∃ cs, cls i.op = some cs ∧ argsOk cs i.args = true ∧ apartI i = true ∧ clsD i.op = cs := by
  unfold validI at h
  split at h
  · cases h
  · rename_i cs hc
    simp only [Bool.and_eq_true] at h
    exact ⟨cs, hc, h.1, h.2, by simp [clsD, hc]⟩

theorem wordsI_clean {i : Ins} (h : validI i = true) : ∀ w ∈ wordsI i, ∀ b ∈ w, b ≠ 32 ∧ b ≠ 10 := by
  obtain ⟨cs, hc, ha, _, hd⟩ := valid_inv h
  intro w hw
  simp only [wordsI, List.mem_cons] at hw
  rcases hw with rfl | hw
  · exact mnem_clean hc
  · rw [hd] at hw; exact words_clean ha w hw

theorem split_line {i : Ins} (h : validI i = true) : Lib.split (lineI i) [32] = wordsI i := by
  rw [lineI_join]
  exact split_join 32 _ (by simp [wordsI]) (fun w hw h32 => (wordsI_clean h w hw 32 h32).1 rfl)

theorem fits_args {i : Ins} (h : i.fits) : ∀ x ∈ i.args, i64 x := by
  intro x hx
  simp only [Ins.args, List.mem_cons, List.not_mem_nil, or_false] at hx
  rcases hx with rfl | rfl | rfl | rfl
  · exact h.2.1
  · exact h.2.2.1
  · exact h.2.2.2.1
  · exact h.2.2.2.2

theorem args_inj {i j : Ins} (h : i.op = j.op) (e : i.args = j.args) : i = j := by
  cases i; cases j
  simp [Ins.args] at h e ⊢
  exact ⟨h, e⟩

theorem IsLine.inj {i j : Ins} {s : List UInt8} (h : IsLine i s) (h' : IsLine j s) : i = j := by
  have e : wordsI i = wordsI j := by rw [← split_line h.valid, ← split_line h'.valid, h.line, h'.line]
  obtain ⟨cs, hc, ha, _, hd⟩ := valid_inv h.valid
  obtain ⟨cs', hc', ha', _, hd'⟩ := valid_inv h'.valid
  simp only [wordsI, List.cons.injEq] at e
  have ho := mnem_inj hc hc' e.1
  rw [ho, hc'] at hc
  simp at hc; subst hc
  rw [hd, hd'] at e
  exact args_inj ho (words_inj rfl ha ha' (fits_args h.fits) (fits_args h'.fits) e.2)

open Classical in
/-- The instruction whose text a line is. -/
noncomputable def readI (s : List UInt8) : Option Ins := if h : ∃ i, IsLine i s then some h.choose else none
theorem readI_some {s : List UInt8} {i : Ins} : readI s = some i ↔ IsLine i s := by
  unfold readI
  constructor
  · intro h
    split at h
    · rename_i hx
      simp only [Option.some.injEq] at h
      rw [← h]; exact hx.choose_spec
    · cases h
  · intro h
    rw [dif_pos ⟨i, h⟩]
    congr 1
    exact (Exists.choose_spec (⟨i, h⟩ : ∃ i, IsLine i s)).inj h
theorem readI_none {s : List UInt8} (h : ∀ i, ¬ IsLine i s) : readI s = none := by
  cases hr : readI s with
  | none => rfl
  | some i => exact absurd (readI_some.1 hr) (h i)

noncomputable def parseI : Nat → List UInt8 → List Ins → Nat → List Ins × Nat × Int
  | 0, _, out, _ => (out, 0, 0)
  | f + 1, s, out, n => if s = [] then (out, 0, 0) else
    if 65536 < n then ([], n, 5) else
    match readI (Lib.cut s [10]).1 with
    | none => ([], n, 3)
    | some i => if (Lib.cut s [10]).2.2 then parseI f (Lib.cut s [10]).2.1 (out ++ [i]) (n + 1) else ([], n, 4)

theorem line_clean {i : Ins} (h : validI i = true) : (10 : UInt8) ∉ lineI i := by
  rw [lineI_join]
  intro hm
  rcases mem_join _ _ _ hm with h1 | ⟨w, hw, hb⟩
  · exact absurd h1 (by decide)
  · exact (wordsI_clean h w hw 10 hb).2 rfl

theorem cut_len (s : List UInt8) (h : (Lib.cut s [10]).2.2 = true) : (Lib.cut s [10]).2.1.length < s.length := by
  by_cases hm : (10 : UInt8) ∈ s
  · obtain ⟨w, t, rfl, hw⟩ : ∃ w t, s = w ++ 10 :: t ∧ (10 : UInt8) ∉ w := by
      rcases index_cases s 10 with ⟨h1, _⟩ | ⟨w, t, h1, h2, _⟩
      · exact absurd hm h1
      · exact ⟨w, t, h1, h2⟩
    rw [cut_at hw]; simp; omega
  · rw [cut_none hm] at h; cases h

theorem parseI_fuel : ∀ (f g : Nat) (s : List UInt8) (out : List Ins) (n : Nat), s.length < f → s.length < g → parseI f s out n = parseI g s out n
  | 0, _, _, _, _, h, _ => by omega
  | _ + 1, 0, _, _, _, _, h => by omega
  | f + 1, g + 1, s, out, n, h1, h2 => by
    simp only [parseI]
    split
    · rfl
    · split
      · rfl
      · split
        · rfl
        · split
          · rename_i hc
            have := cut_len s hc
            exact parseI_fuel f g _ _ _ (by omega) (by omega)
          · rfl

theorem parse_text : ∀ (l : List Ins) (f : Nat) (s : List UInt8) (out : List Ins) (n : Nat), (∀ i ∈ l, i.fits ∧ validI i = true) → (textI l ++ s).length < f → n + l.length ≤ 65537 →
    parseI f (textI l ++ s) out n = parseI f s (out ++ l) (n + l.length)
  | [], f, s, out, n, _, _, _ => by simp [textI]
  | i :: l, 0, s, out, n, h, hf, hn => by omega
  | i :: l, f + 1, s, out, n, h, hf, hn => by
    obtain ⟨hi, hv⟩ := h i (by simp)
    have e : textI (i :: l) ++ s = lineI i ++ 10 :: (textI l ++ s) := by simp [textI]
    rw [e] at hf ⊢
    have hr : readI (lineI i) = some i := readI_some.2 ⟨hi, hv, rfl⟩
    have hne : ¬ (lineI i ++ 10 :: (textI l ++ s) = []) := by simp
    simp only [List.length_append, List.length_cons] at hf hn
    rw [parseI, if_neg hne, if_neg (by omega), cut_at (line_clean hv)]
    simp only [hr, if_true]
    rw [parse_text l f s (out ++ [i]) (n + 1) (fun j hj => h j (by simp [hj])) (by simp; omega) (by omega)]
    rw [parseI_fuel f (f + 1) s _ _ (by omega) (by omega)]
    simp [Nat.add_assoc, Nat.add_comm 1]

/-- What a parsed text is. -/
theorem parse_inv : ∀ (f : Nat) (s : List UInt8) (out : List Ins) (n : Nat), s.length < f → n + s.length ≤ 65536 →
    (∃ l, parseI f s out n = (out ++ l, 0, 0) ∧ s = textI l ∧ ∀ i ∈ l, i.fits ∧ validI i = true) ∨
      (∃ k e, parseI f s out n = ([], n + k, e) ∧ (e = 3 ∨ e = 4) ∧ ∀ (out' : List Ins) (n' : Nat), n' + s.length ≤ 65536 → parseI f s out' n' = ([], n' + k, e))
  | 0, s, out, n, h, _ => by omega
  | f + 1, s, out, n, h, hn => by
    rw [parseI]
    by_cases hs : s = []
    · left
      exact ⟨[], by simp [hs], by simp [hs, textI], by simp⟩
    · have hl : 0 < s.length := List.length_pos_iff.2 hs
      rw [if_neg hs, if_neg (by omega)]
      cases hr : readI (Lib.cut s [10]).1 with
      | none =>
        right
        refine ⟨0, 3, rfl, .inl rfl, fun out' n' hn' => ?_⟩
        rw [parseI, if_neg hs, if_neg (by omega), hr]
        rfl
      | some i =>
        by_cases hc : (Lib.cut s [10]).2.2 = true
        · obtain ⟨w, t, rfl, hw⟩ : ∃ w t, s = w ++ 10 :: t ∧ (10 : UInt8) ∉ w := by
            by_cases hm : (10 : UInt8) ∈ s
            · rcases index_cases s 10 with ⟨h1, _⟩ | ⟨w, t, h1, h2, _⟩
              · exact absurd hm h1
              · exact ⟨w, t, h1, h2⟩
            · rw [cut_none hm] at hc; cases hc
          have hi := readI_some.1 hr
          rw [cut_at hw] at hi hr ⊢
          simp only [List.length_append, List.length_cons] at h hn hl
          simp only [if_true]
          rcases parse_inv f t (out ++ [i]) (n + 1) (by omega) (by omega) with ⟨l, h1, h2, h3⟩ | ⟨k, e, h1, h2, h3⟩
          · left
            refine ⟨i :: l, by rw [h1]; simp, ?_, ?_⟩
            · have := hi.line
              simp only at this
              rw [← this, h2]; simp [textI]
            · intro j hj
              rcases List.mem_cons.1 hj with rfl | hj
              · exact ⟨hi.fits, hi.valid⟩
              · exact h3 j hj
          · right
            refine ⟨k + 1, e, by rw [h1]; simp; omega, h2, fun out' n' hn' => ?_⟩
            simp only [List.length_append, List.length_cons] at hn'
            rw [parseI, if_neg hs, if_neg (by omega), cut_at hw]
            simp only at hr
            simp only [hr, if_true]
            rw [h3 _ _ (by omega)]
            simp; omega
        · right
          simp only [Bool.not_eq_true] at hc
          refine ⟨0, 4, by simp [hc], .inr rfl, fun out' n' hn' => ?_⟩
          rw [parseI, if_neg hs, if_neg (by omega), hr]
          simp [hc]
end Go.Ev.A
end

/- Machine code's bytes, plainly: written and read. No program in sight. -/
section
set_option linter.all false
namespace Go.Ev.A
open Go.Proofs Go.Ev.S

def width (c : UInt8) : Nat := if c = 107 ∨ c = 116 then 4 else if c = 110 then 8 else 1
/-- The 'k' low bytes, the highest first. -/
def be : Nat → Nat → List UInt8
  | 0, _ => []
  | k + 1, u => UInt8.ofNat (u / 256 ^ k % 256) :: be k u
def low (x : Int) : Nat := (x % 18446744073709551616).toNat
def beI (k : Nat) (x : Int) : List UInt8 := be k (low x)
def argBytes : List UInt8 → List Int → List UInt8
  | c :: cs, x :: xs => beI (width c) x ++ argBytes cs xs
  | _, _ => []
def bytesI (i : Ins) : List UInt8 := UInt8.ofNat i.op.toNat :: argBytes (clsD i.op) i.args
def codeI (l : List Ins) : List UInt8 := (l.map bytesI).flatten
def encodeI (l : List Ins) : List UInt8 := beI 4 l.length ++ codeI l

def numU (a : Nat) (bs : List UInt8) : Nat := bs.foldl (fun a b => a * 256 + b.toNat) a
def numI (bs : List UInt8) : Int := IntKind.i64.wrap (numU 0 bs)

theorem be_length : ∀ (k u : Nat), (be k u).length = k
  | 0, _ => rfl
  | k + 1, u => by simp [be, be_length k u]

theorem numU_app (a : Nat) (x y : List UInt8) : numU a (x ++ y) = numU (numU a x) y := by simp [numU]

theorem numU_shift : ∀ (bs : List UInt8) (a : Nat), numU a bs = a * 256 ^ bs.length + numU 0 bs
  | [], a => by simp [numU]
  | b :: bs, a => by
    have h1 := numU_shift bs (a * 256 + b.toNat)
    have h2 := numU_shift bs (0 * 256 + b.toNat)
    show numU (a * 256 + b.toNat) bs = a * 256 ^ (bs.length + 1) + numU (0 * 256 + b.toNat) bs
    rw [h1, h2, Nat.pow_succ]
    have : (a * 256 + b.toNat) * 256 ^ bs.length = a * (256 ^ bs.length * 256) + b.toNat * 256 ^ bs.length := by
      rw [Nat.add_mul, Nat.mul_assoc, Nat.mul_comm 256]
    rw [this, Nat.zero_mul, Nat.zero_add, Nat.add_assoc]

theorem numU_be : ∀ (k u : Nat), numU 0 (be k u) = u % 256 ^ k
  | 0, u => by simp [be, numU, Nat.mod_one]
  | k + 1, u => by
    show numU (0 * 256 + (UInt8.ofNat (u / 256 ^ k % 256)).toNat) (be k u) = _
    have e : (UInt8.ofNat (u / 256 ^ k % 256)).toNat = u / 256 ^ k % 256 := by rw [UInt8.toNat_ofNat']; omega
    rw [numU_shift, numU_be k u, be_length, e, Nat.zero_mul, Nat.zero_add, Nat.pow_succ, Nat.mod_mul, Nat.mul_comm, Nat.add_comm]

theorem numU_lt : ∀ (bs : List UInt8), numU 0 bs < 256 ^ bs.length
  | [] => by simp [numU]
  | b :: bs => by
    show numU (0 * 256 + b.toNat) bs < _
    rw [numU_shift, List.length_cons, Nat.pow_succ]
    have h1 := numU_lt bs
    have h2 : b.toNat < 256 := b.toNat_lt
    have : (0 * 256 + b.toNat) * 256 ^ bs.length ≤ 255 * 256 ^ bs.length := Nat.mul_le_mul_right _ (by omega)
    omega

theorem be_numU : ∀ (bs : List UInt8) (a : Nat), be bs.length (a * 256 ^ bs.length + numU 0 bs) = bs
  | [], a => rfl
  | b :: bs, a => by
    have hn : numU 0 (b :: bs) = b.toNat * 256 ^ bs.length + numU 0 bs := by
      show numU (0 * 256 + b.toNat) bs = _
      rw [numU_shift]; simp
    have hl := numU_lt bs
    have hp : 0 < 256 ^ bs.length := Nat.pow_pos (by decide)
    have e : a * 256 ^ (b :: bs).length + numU 0 (b :: bs) = (a * 256 + b.toNat) * 256 ^ bs.length + numU 0 bs := by
      rw [hn, List.length_cons, Nat.pow_succ, Nat.add_mul, Nat.mul_assoc, Nat.mul_comm 256, Nat.add_assoc]
    rw [e]
    simp only [List.length_cons, be]
    rw [be_numU bs]
    congr 1
    rw [Nat.mul_comm, Nat.mul_add_div hp, Nat.div_eq_of_lt hl, Nat.add_zero]
    apply UInt8.toNat_inj.1
    rw [UInt8.toNat_ofNat']
    have h2 : b.toNat < 256 := b.toNat_lt
    omega

theorem wrap64 (n : Int) : IntKind.i64.wrap n = if 9223372036854775808 ≤ n % 18446744073709551616 then n % 18446744073709551616 - 18446744073709551616 else n % 18446744073709551616 := by
  show (if (true && decide (n % 18446744073709551616 ≥ 9223372036854775808)) = true then n % 18446744073709551616 - 18446744073709551616 else n % 18446744073709551616) = _
  by_cases h : 9223372036854775808 ≤ n % 18446744073709551616 <;> simp [h]

theorem low_i64 {x : Int} (h : i64 x) : low x < 18446744073709551616 ∧ IntKind.i64.wrap (low x : Int) = x := by
  unfold low i64 at *
  have h1 : 0 ≤ x % 18446744073709551616 := Int.emod_nonneg _ (by decide)
  have h2 : x % 18446744073709551616 < 18446744073709551616 := Int.emod_lt_of_pos _ (by decide)
  refine ⟨by omega, ?_⟩
  rw [wrap64]
  omega

theorem low_nat {x : Int} (h0 : 0 ≤ x) (h1 : x < 18446744073709551616) : low x = x.toNat := by
  unfold low; rw [Int.emod_eq_of_lt h0 h1]

theorem num_beI {c : UInt8} {x : Int} (hx : i64 x) (hf : fitsC c x = true) (hc : c = 114 ∨ c = 107 ∨ c = 116 ∨ c = 101 ∨ c = 111 ∨ c = 110) : numI (beI (width c) x) = x := by
  unfold numI beI
  rw [numU_be]
  obtain ⟨h1, h2⟩ := low_i64 hx
  rcases hc with rfl | rfl | rfl | rfl | rfl | rfl
  · have : 0 ≤ x ∧ x < 16 := by simpa [fitsC] using hf
    have hl := low_nat this.1 (by omega)
    rw [show width 114 = 1 from rfl, Nat.mod_eq_of_lt (by omega)]; exact h2
  · have : 0 ≤ x ∧ x ≤ 16384 := by simpa [fitsC] using hf
    have hl := low_nat this.1 (by omega)
    rw [show width 107 = 4 from rfl, Nat.mod_eq_of_lt (by omega)]; exact h2
  · have : 0 ≤ x ∧ x < 65536 := by simpa [fitsC] using hf
    have hl := low_nat this.1 (by omega)
    rw [show width 116 = 4 from rfl, Nat.mod_eq_of_lt (by omega)]; exact h2
  · have : 1 ≤ x ∧ x ≤ 23 := by simpa [fitsC] using hf
    have hl := low_nat (x := x) (by omega) (by omega)
    rw [show width 101 = 1 from rfl, Nat.mod_eq_of_lt (by omega)]; exact h2
  · have : 8 ≤ x ∧ x ≤ 23 := by simpa [fitsC] using hf
    have hl := low_nat (x := x) (by omega) (by omega)
    rw [show width 111 = 1 from rfl, Nat.mod_eq_of_lt (by omega)]; exact h2
  · rw [show width 110 = 8 from rfl, Nat.mod_eq_of_lt (by omega)]; exact h2

theorem width_cases (c : UInt8) : width c = 1 ∨ width c = 4 ∨ width c = 8 := by
  unfold width; split
  · simp
  · split <;> simp

theorem wrap_low (u : Nat) (h : u < 18446744073709551616) : low (IntKind.i64.wrap (u : Int)) = u ∧ i64 (IntKind.i64.wrap (u : Int)) := by
  unfold low i64
  rw [wrap64]
  omega

theorem beI_num {c : UInt8} {bs : List UInt8} (h : bs.length = width c) : beI (width c) (numI bs) = bs ∧ i64 (numI bs) := by
  have hl := numU_lt bs
  have : numU 0 bs < 18446744073709551616 := by
    refine Nat.lt_of_lt_of_le hl ?_
    rw [h]
    rcases width_cases c with e | e | e <;> rw [e] <;> decide
  obtain ⟨h1, h2⟩ := wrap_low _ this
  refine ⟨?_, h2⟩
  unfold beI numI
  rw [h1, ← h]
  simpa using be_numU bs 0

/-! ## Reading -/
def takeArgs : List UInt8 → List UInt8 → Option (List Int × List UInt8)
  | [], b => some ([], b)
  | c :: cs, b => if b.length < width c then none else
    match takeArgs cs (b.drop (width c)) with
    | none => none
    | some (xs, r) => some (numI (b.take (width c)) :: xs, r)
def insOf (op : Int) (xs : List Int) : Ins := ⟨op, xs.getD 0 0, xs.getD 1 0, xs.getD 2 0, xs.getD 3 0⟩
def dec1 : List UInt8 → Except Int (Ins × List UInt8)
  | [] => .error 4
  | o :: b => match cls o.toNat with
    | none => .error 3
    | some cs => match takeArgs cs b with
      | none => .error 4
      | some (xs, r) => if validI (insOf o.toNat xs) then .ok (insOf o.toNat xs, r) else .error 3
def decGo : Nat → List UInt8 → List Ins → List Ins × Int
  | 0, b, out => if b = [] then (out, 0) else ([], 3)
  | n + 1, b, out => match dec1 b with
    | .error e => ([], e)
    | .ok (i, r) => decGo n r (out ++ [i])
def decodeI (b : List UInt8) : List Ins × Int :=
  if b.length < 4 then ([], 4) else if 65536 < numU 0 (b.take 4) then ([], 5) else decGo (numU 0 (b.take 4)) (b.drop 4) []

/-- The operands that an opcode has not are 0. -/
theorem argsOk_rest : ∀ {xs : List Int}, argsOk [] xs = true → ∀ x ∈ xs, x = 0
  | [], _, x, hx => by simp at hx
  | y :: xs, h, x, hx => by
    simp only [argsOk, Bool.and_eq_true, decide_eq_true_eq] at h
    rcases List.mem_cons.1 hx with rfl | hx
    · exact h.1
    · exact argsOk_rest h.2 x hx

theorem take_args : ∀ {cs : List UInt8} {xs : List Int} (r : List UInt8), argsOk cs xs = true → cs.length ≤ xs.length → (∀ x ∈ xs, i64 x) →
    (∀ c ∈ cs, c = 114 ∨ c = 107 ∨ c = 116 ∨ c = 101 ∨ c = 111 ∨ c = 110) → takeArgs cs (argBytes cs xs ++ r) = some (xs.take cs.length, r)
  | [], xs, r, _, _, _, _ => by simp [takeArgs, argBytes]
  | c :: cs, [], r, _, h, _, _ => by simp at h
  | c :: cs, x :: xs, r, h, hl, hx, hc => by
    simp only [argsOk, Bool.and_eq_true] at h
    have hlen : (beI (width c) x).length = width c := be_length _ _
    simp only [takeArgs, argBytes, List.append_assoc]
    rw [if_neg (by simp [hlen])]
    have e1 : (beI (width c) x ++ (argBytes cs xs ++ r)).drop (width c) = argBytes cs xs ++ r := List.drop_left' hlen
    have e2 : (beI (width c) x ++ (argBytes cs xs ++ r)).take (width c) = beI (width c) x := List.take_left' hlen
    rw [e1, e2, take_args r h.2 (by simpa using hl) (fun y hy => hx y (by simp [hy])) (fun y hy => hc y (by simp [hy])), num_beI (hx x (by simp)) h.1 (hc c (by simp))]
    simp

theorem args_take {i : Ins} {cs : List UInt8} (hl : cs.length ≤ 4) (h : argsOk cs i.args = true) : insOf i.op (i.args.take cs.length) = i := by
  obtain ⟨op, a, b, c, d⟩ := i
  simp only [Ins.args] at h ⊢
  match cs, hl with
  | [], _ => simp [argsOk] at h; simp [insOf, h]
  | [x], _ => simp [argsOk] at h; simp [insOf, h]
  | [x, y], _ => simp [argsOk] at h; simp [insOf, h]
  | [x, y, z], _ => simp [argsOk] at h; simp [insOf, h]
  | [x, y, z, t], _ => simp [insOf]
  | _ :: _ :: _ :: _ :: _ :: _, h => simp at h

theorem op_byte {i : Ins} (h : i.fits) : ((UInt8.ofNat i.op.toNat).toNat : Int) = i.op := by
  have := h.1
  rw [UInt8.toNat_ofNat']; omega

theorem dec1_enc {i : Ins} (hf : i.fits) (hv : validI i = true) (r : List UInt8) : dec1 (bytesI i ++ r) = .ok (i, r) := by
  obtain ⟨cs, hc, ha, _, hd⟩ := valid_inv hv
  have hlen := cls_len hc
  have hop := op_byte hf
  simp only [bytesI, List.cons_append, dec1, hop, hc, hd]
  rw [take_args r ha (by simpa [Ins.args] using hlen) (fits_args hf) (cls_mem hc)]
  simp only [args_take hlen ha, hv, if_true]

theorem take_inv : ∀ {cs b : List UInt8} {xs : List Int} {r : List UInt8}, takeArgs cs b = some (xs, r) → b = argBytes cs xs ++ r ∧ xs.length = cs.length ∧ ∀ x ∈ xs, i64 x
  | [], b, xs, r, h => by simp [takeArgs] at h; obtain ⟨rfl, rfl⟩ := h; simp [argBytes]
  | c :: cs, b, xs, r, h => by
    simp only [takeArgs] at h
    split at h
    · cases h
    · rename_i hl
      split at h
      · cases h
      · rename_i ys r' hq
        simp only [Option.some.injEq, Prod.mk.injEq] at h
        obtain ⟨rfl, rfl⟩ := h
        obtain ⟨h1, h2, h3⟩ := take_inv hq
        obtain ⟨h4, h5⟩ := beI_num (c := c) (bs := b.take (width c)) (by simp; omega)
        refine ⟨?_, by simp [h2], ?_⟩
        · simp only [argBytes, h4, List.append_assoc, ← h1, List.take_append_drop]
        · intro x hx
          rcases List.mem_cons.1 hx with rfl | hx
          · exact h5
          · exact h3 x hx

theorem argBytes_pad : ∀ (cs : List UInt8) (xs ys : List Int), xs.length = cs.length → argBytes cs (xs ++ ys) = argBytes cs xs
  | [], xs, ys, h => by simp [argBytes]
  | c :: cs, [], ys, h => by simp at h
  | c :: cs, x :: xs, ys, h => by simp [argBytes, argBytes_pad cs xs ys (by simpa using h)]

theorem insOf_args {op : Int} {xs : List Int} (h : xs.length ≤ 4) : ∃ ys, (insOf op xs).args = xs ++ ys ∧ ∀ y ∈ ys, y = 0 := by
  match xs, h with
  | [], _ => exact ⟨[0, 0, 0, 0], by simp [insOf, Ins.args], by simp⟩
  | [x], _ => exact ⟨[0, 0, 0], by simp [insOf, Ins.args], by simp⟩
  | [x, y], _ => exact ⟨[0, 0], by simp [insOf, Ins.args], by simp⟩
  | [x, y, z], _ => exact ⟨[0], by simp [insOf, Ins.args], by simp⟩
  | [x, y, z, t], _ => exact ⟨[], by simp [insOf, Ins.args], by simp⟩
  | _ :: _ :: _ :: _ :: _ :: _, h => simp at h

theorem dec1_inv {b : List UInt8} {i : Ins} {r : List UInt8} (h : dec1 b = .ok (i, r)) : i.fits ∧ validI i = true ∧ b = bytesI i ++ r := by
  cases b with
  | nil => simp [dec1] at h
  | cons o b =>
    simp only [dec1] at h
    split at h
    · cases h
    · rename_i cs hc
      split at h
      · cases h
      · rename_i xs r' hq
        split at h
        · rename_i hv
          simp only [Except.ok.injEq, Prod.mk.injEq] at h
          obtain ⟨rfl, rfl⟩ := h
          obtain ⟨h1, h2, h3⟩ := take_inv hq
          have hl := cls_len hc
          obtain ⟨ys, e, hy⟩ := insOf_args (op := o.toNat) (xs := xs) (by omega)
          have ho : o.toNat < 256 := o.toNat_lt
          have hi : ∀ x ∈ (insOf o.toNat xs).args, i64 x := by
            rw [e]; intro x hx
            rcases List.mem_append.1 hx with hx | hx
            · exact h3 x hx
            · rw [hy x hx]; exact ⟨by decide, by decide⟩
          refine ⟨⟨by simp only [insOf]; omega, hi _ (by simp [Ins.args]), hi _ (by simp [Ins.args]), hi _ (by simp [Ins.args]), hi _ (by simp [Ins.args])⟩, hv, ?_⟩
          have hd : clsD (insOf o.toNat xs).op = cs := by simp [clsD, insOf, hc]
          unfold bytesI
          rw [hd, e, argBytes_pad cs xs ys h2, List.cons_append, ← h1]
          congr 1
          apply UInt8.toNat_inj.1
          rw [UInt8.toNat_ofNat']
          simp only [insOf]; omega
        · cases h

theorem decGo_code : ∀ (l out : List Ins) (r : List UInt8), (∀ i ∈ l, i.fits ∧ validI i = true) → decGo l.length (codeI l ++ r) out = if r = [] then (out ++ l, 0) else ([], 3)
  | [], out, r, _ => by simp [codeI, decGo]
  | i :: l, out, r, h => by
    have e : codeI (i :: l) ++ r = bytesI i ++ (codeI l ++ r) := by simp [codeI]
    simp only [List.length_cons, decGo, e, dec1_enc (h i (by simp)).1 (h i (by simp)).2]
    rw [decGo_code l (out ++ [i]) r (fun j hj => h j (by simp [hj]))]
    simp

theorem take_short : ∀ {cs : List UInt8} {xs : List Int} {b : List UInt8}, cs.length ≤ xs.length → b.length < (argBytes cs xs).length → takeArgs cs b = none
  | [], xs, b, _, h => by simp [argBytes] at h
  | c :: cs, [], b, hl, _ => by simp at hl
  | c :: cs, x :: xs, b, hl, h => by
    have hlen : (beI (width c) x).length = width c := be_length _ _
    simp only [argBytes, List.length_append, hlen] at h
    simp only [takeArgs]
    split
    · rfl
    · rw [take_short (xs := xs) (by simpa using hl) (by simp; omega)]

theorem dec1_short {i : Ins} (hf : i.fits) (hv : validI i = true) {b r : List UInt8} (h : bytesI i = b ++ r) (hr : r ≠ []) : dec1 b = .error 4 := by
  obtain ⟨cs, hc, ha, _, hd⟩ := valid_inv hv
  cases b with
  | nil => rfl
  | cons o b =>
    simp only [bytesI, List.cons_append, List.cons.injEq] at h
    obtain ⟨rfl, h⟩ := h
    have hop := op_byte hf
    simp only [dec1, hop, hc]
    rw [take_short (xs := i.args)]
    · simpa [Ins.args] using cls_len hc
    · rw [hd] at h; rw [h]
      have := List.length_pos_iff.2 hr
      simp; omega

theorem decGo_short : ∀ (l out : List Ins) (b r : List UInt8), (∀ i ∈ l, i.fits ∧ validI i = true) → codeI l = b ++ r → r ≠ [] → decGo l.length b out = ([], 4)
  | [], out, b, r, _, h, hr => by
    have := congrArg List.length h
    have h2 := List.length_pos_iff.2 hr
    simp [codeI] at this
    omega
  | i :: l, out, b, r, h, e, hr => by
    obtain ⟨hf, hv⟩ := h i (by simp)
    have e' : bytesI i ++ codeI l = b ++ r := by rw [← e]; simp [codeI]
    simp only [List.length_cons, decGo]
    by_cases hb : b.length < (bytesI i).length
    · obtain ⟨t, ht⟩ : ∃ t, bytesI i = b ++ t := by
        refine ⟨(bytesI i).drop b.length, ?_⟩
        have := congrArg (List.take b.length) e'
        rw [List.take_append_of_le_length (by omega), List.take_left] at this
        rw [← this]
        exact (List.take_append_drop _ _).symm.trans (by rw [this])
      rw [dec1_short hf hv ht (by rintro rfl; simp [ht] at hb)]
    · obtain ⟨t, rfl⟩ : ∃ t, b = bytesI i ++ t := by
        refine ⟨b.drop (bytesI i).length, ?_⟩
        have := congrArg (List.take (bytesI i).length) e'
        rw [List.take_left, List.take_append_of_le_length (by omega)] at this
        have h2 := (List.take_append_drop (bytesI i).length b).symm
        rw [← this] at h2
        exact h2
      rw [dec1_enc hf hv]
      simp only
      rw [List.append_assoc] at e'
      exact decGo_short l (out ++ [i]) t r (fun j hj => h j (by simp [hj])) (List.append_cancel_left e') hr

theorem be4 {n : Nat} (h : n ≤ 65536) : numU 0 (beI 4 n) = n := by
  unfold beI
  rw [low_nat (by omega) (by omega), numU_be]
  exact Nat.mod_eq_of_lt (by omega)

theorem decode_encode {l : List Ins} (h : ∀ i ∈ l, i.fits ∧ validI i = true) (hl : l.length ≤ 65536) (r : List UInt8) : decodeI (encodeI l ++ r) = if r = [] then (l, 0) else ([], 3) := by
  unfold decodeI encodeI
  have h4 : (beI 4 l.length).length = 4 := be_length _ _
  have e1 : (beI 4 l.length ++ codeI l ++ r).take 4 = beI 4 l.length := by rw [List.append_assoc]; exact List.take_left' h4
  have e2 : (beI 4 l.length ++ codeI l ++ r).drop 4 = codeI l ++ r := by rw [List.append_assoc]; exact List.drop_left' h4
  rw [if_neg (by simp [h4]), e1, e2, be4 hl, if_neg (by omega), decGo_code l [] r h]
  simp

theorem decode_short {l : List Ins} (h : ∀ i ∈ l, i.fits ∧ validI i = true) (hl : l.length ≤ 65536) {b r : List UInt8} (e : encodeI l = b ++ r) (hr : r ≠ []) : decodeI b = ([], 4) := by
  unfold decodeI
  split
  · rfl
  · rename_i h0
    have h4 : (beI 4 l.length).length = 4 := be_length _ _
    have e1 : b.take 4 = beI 4 l.length := by
      have := congrArg (List.take 4) e
      rw [List.take_append_of_le_length (by omega), encodeI, List.take_left' h4] at this
      rw [← this]
    have e2 : codeI l = b.drop 4 ++ r := by
      have := congrArg (List.drop 4) e
      rw [List.drop_append_of_le_length (by omega), encodeI, List.drop_left' h4] at this
      exact this
    rw [e1, be4 hl, if_neg (by omega)]
    exact decGo_short l [] _ r h e2 hr

theorem decGo_inv : ∀ (n : Nat) (b : List UInt8) (out out' : List Ins), decGo n b out = (out', 0) → ∃ l, out' = out ++ l ∧ l.length = n ∧ b = codeI l ∧ ∀ i ∈ l, i.fits ∧ validI i = true
  | 0, b, out, out', h => by
    simp only [decGo] at h
    split at h
    · rename_i hb
      simp at h; subst h; subst hb
      exact ⟨[], by simp, rfl, by simp [codeI], by simp⟩
    · simp at h
  | n + 1, b, out, out', h => by
    simp only [decGo] at h
    cases hd : dec1 b with
    | error e =>
      rw [hd] at h
      simp at h
      cases b with
      | nil => simp [dec1] at hd; omega
      | cons o b =>
        simp only [dec1] at hd
        split at hd
        · simp at hd; omega
        · split at hd
          · simp at hd; omega
          · split at hd
            · cases hd
            · simp at hd; omega
    | ok p =>
      obtain ⟨i, r⟩ := p
      rw [hd] at h
      obtain ⟨h1, h2, h3⟩ := dec1_inv hd
      obtain ⟨l, h4, h5, h6, h7⟩ := decGo_inv n r (out ++ [i]) out' h
      refine ⟨i :: l, by rw [h4]; simp, by simp [h5], by rw [h3, h6]; simp [codeI], fun j hj => ?_⟩
      rcases List.mem_cons.1 hj with rfl | hj
      · exact ⟨h1, h2⟩
      · exact h7 j hj

theorem decode_inv {b : List UInt8} {l : List Ins} (h : decodeI b = (l, 0)) : b = encodeI l ∧ l.length ≤ 65536 ∧ ∀ i ∈ l, i.fits ∧ validI i = true := by
  unfold decodeI at h
  split at h
  · simp at h
  · rename_i h0
    split at h
    · simp at h
    · rename_i h1
      obtain ⟨l', h2, h3, h4, h5⟩ := decGo_inv _ _ _ _ h
      simp at h2; subst h2
      refine ⟨?_, by omega, h5⟩
      unfold encodeI
      rw [← h4, h3]
      have hl : (b.take 4).length = 4 := by simp; omega
      have := be_numU (b.take 4) 0
      rw [hl] at this
      have h6 := numU_lt (b.take 4)
      rw [hl] at h6
      unfold beI
      rw [low_nat (by omega) (by omega)]
      simp only [Nat.zero_mul, Nat.zero_add] at this
      rw [show ((numU 0 (List.take 4 b) : Nat) : Int).toNat = numU 0 (List.take 4 b) from rfl, this]
      exact (List.take_append_drop _ _).symm

theorem decode_err {b : List UInt8} {l : List Ins} {e : Int} (h : decodeI b = (l, e)) (he : e ≠ 0) : l = [] := by
  have key : ∀ (n : Nat) (b : List UInt8) (out : List Ins) (l : List Ins) (e : Int), decGo n b out = (l, e) → e ≠ 0 → l = [] := by
    intro n
    induction n with
    | zero =>
      intro b out l e h he
      simp only [decGo] at h
      split at h
      · simp at h; exact absurd h.2.symm he
      · simp at h; exact h.1
    | succ n ih =>
      intro b out l e h he
      simp only [decGo] at h
      split at h
      · simp at h; exact h.1
      · exact ih _ _ _ _ h he
  unfold decodeI at h
  split at h
  · simp at h; exact h.1
  · split at h
    · simp at h; exact h.1
    · exact key _ _ _ _ _ h he
end Go.Ev.A
end

/- A line of machine code read word by word, in two ways; both read the instruction whose line it is. No program in sight. -/
section
set_option linter.all false
namespace Go.Ev.A
open Go.Proofs Go.Ev.S

def opBy (w : List UInt8) : Option Nat := mnTab.findIdx? fun x => decide (x = w)
def symBy (w : List UInt8) : Option Nat := syTab.findIdx? fun x => decide (x = w)

/-- The reference's reading of an operand. -/
def opR (c : UInt8) (w : List UInt8) : Option Int :=
  if c = 114 then (match w with | 114 :: t => canon t | _ => none)
  else if c = 111 then (symBy w).map (fun (k : Nat) => (Int.ofNat k) + 8) else canon w
/-- The program's. -/
def atoiO (w : List UInt8) : Option Int := match Lib.atoiAll w with | .ok v => some v | _ => none
def trimR (w : List UInt8) : List UInt8 := match w with | 114 :: t => t | w => w
def opP (c : UInt8) (w : List UInt8) : Option Int :=
  if c = 114 then atoiO (trimR w) else if c = 111 then (symBy w).map (fun (k : Nat) => (Int.ofNat k) + 8) else atoiO w

def opsBy (f : UInt8 → List UInt8 → Option Int) : List UInt8 → List (List UInt8) → Option (List Int)
  | [], _ => some []
  | c :: cs, w :: ws => match f c w with
    | none => none
    | some x => match opsBy f cs ws with
      | none => none
      | some xs => some (x :: xs)
  | _ :: _, [] => none

def readBy (f : UInt8 → List UInt8 → Option Int) (s : List UInt8) : Option Ins :=
  let w := Lib.split s [32]
  match opBy (w.headD []) with
  | none => none
  | some op => if w.length = (clsD op).length + 1 then
      match opsBy f (clsD op) (w.drop 1) with
      | none => none
      | some xs => if validI (insOf op xs) then some (insOf op xs) else none
    else none
def readP (s : List UInt8) : Option Ins :=
  match readBy opP s with
  | none => none
  | some i => if lineI i = s then some i else none
def readR (s : List UInt8) : Option Ins := readBy opR s

theorem opBy_some {w : List UInt8} {k : Nat} (h : opBy w = some k) : k < 35 ∧ mnem (k : Int) = w ∧ cls (k : Int) = some (clsD (k : Int)) := by
  unfold opBy at h
  obtain ⟨h1, h2, h3⟩ := List.findIdx?_eq_some_iff_getElem.1 h
  have e : mnTab.length = 35 := rfl
  have h1' : k < 35 := by omega
  refine ⟨h1', ?_, ?_⟩
  · unfold mnem
    rw [if_neg (by omega), show ((k : Int)).toNat = k from rfl, List.getElem?_eq_getElem h1]
    simpa using h2
  · obtain ⟨cs, hc⟩ := cls_of (op := (k : Int)) (by omega) (by omega)
    simp [clsD, hc]

theorem opBy_mnem {op : Int} {cs : List UInt8} (h : cls op = some cs) : opBy (mnem op) = some op.toNat := by
  obtain ⟨h0, h1, h2⟩ := cls_some h
  rw [(clsD_tab h).2]
  have : ∀ k : Fin 35, opBy ((mnTab[k.val]?).getD []) = some k.val := by decide
  exact this ⟨_, h2⟩

theorem symBy_sym {x : Int} (h : 8 ≤ x ∧ x ≤ 23) : symBy (sym x) = some (x - 8).toNat := by
  obtain ⟨h1, h2⟩ := sym_tab h
  rw [h2]
  have : ∀ k : Fin 16, symBy ((syTab[k.val]?).getD []) = some k.val := by decide
  exact this ⟨_, h1⟩

theorem symBy_some {w : List UInt8} {k : Nat} (h : symBy w = some k) : k < 16 ∧ sym ((k : Int) + 8) = w := by
  unfold symBy at h
  obtain ⟨h1, h2, h3⟩ := List.findIdx?_eq_some_iff_getElem.1 h
  have e : syTab.length = 16 := rfl
  refine ⟨by omega, ?_⟩
  unfold sym
  rw [if_neg (by omega), show ((k : Int) + 8 - 8).toNat = k by omega, List.getElem?_eq_getElem h1]
  simpa using h2

theorem opR_word {c : UInt8} {x : Int} (hx : i64 x) (hf : fitsC c x = true) : opR c (word c x) = some x := by
  unfold opR word
  split
  · exact canon_itoa hx.1 hx.2
  · split
    · rename_i h1 h2
      subst h2
      have : 8 ≤ x ∧ x ≤ 23 := by simpa [fitsC] using hf
      rw [symBy_sym this]; simp; omega
    · exact canon_itoa hx.1 hx.2

theorem opP_word {c : UInt8} {x : Int} (hx : i64 x) (hf : fitsC c x = true) : opP c (word c x) = some x := by
  unfold opP word
  split
  · simp [trimR, atoiO, atoi_itoa hx.1 hx.2]
  · split
    · rename_i h1 h2
      subst h2
      have : 8 ≤ x ∧ x ≤ 23 := by simpa [fitsC] using hf
      rw [symBy_sym this]; simp; omega
    · simp [atoiO, atoi_itoa hx.1 hx.2]

theorem opR_inv {c : UInt8} {w : List UInt8} {x : Int} (h : opR c w = some x) : word c x = w ∧ i64 x := by
  unfold opR at h
  split at h
  · rename_i hc
    split at h
    · have h1 := canon_inv h
      have h2 := canon_bounds h
      exact ⟨by simp [word, hc, h1], h2⟩
    · cases h
  · split at h
    · rename_i h1 h2
      cases hk : symBy w with
      | none => simp [hk] at h
      | some k =>
        simp only [hk, Option.map_some, Option.some.injEq, Int.ofNat_eq_natCast] at h; subst h
        obtain ⟨h3, h4⟩ := symBy_some hk
        exact ⟨by simp [word, h1, h2, h4], by unfold i64; omega⟩
    · rename_i h1 h2
      have h3 := canon_inv h
      exact ⟨by simp [word, h1, h2, h3], canon_bounds h⟩

theorem opP_bounds {c : UInt8} {w : List UInt8} {x : Int} (h : opP c w = some x) : i64 x := by
  have key : ∀ w, atoiO w = some x → i64 x := by
    intro w h
    unfold atoiO at h
    split at h
    · rename_i v hv
      simp only [Option.some.injEq] at h; subst h
      exact Lib.atoiAll_bounds hv
    · cases h
  unfold opP at h
  split at h
  · exact key _ h
  · split at h
    · cases hk : symBy w with
      | none => simp [hk] at h
      | some k =>
        simp only [hk, Option.map_some, Option.some.injEq, Int.ofNat_eq_natCast] at h; subst h
        have := (symBy_some hk).1
        unfold i64; omega
    · exact key _ h

theorem opsBy_words {f : UInt8 → List UInt8 → Option Int} (hf : ∀ c x, i64 x → fitsC c x = true → f c (word c x) = some x) : ∀ {cs : List UInt8} {xs : List Int}, argsOk cs xs = true → cs.length ≤ xs.length → (∀ x ∈ xs, i64 x) →
    opsBy f cs (wordsA cs xs) = some (xs.take cs.length)
  | [], xs, _, _, _ => by simp [opsBy]
  | c :: cs, [], _, h, _ => by simp at h
  | c :: cs, x :: xs, h, hl, hx => by
    simp only [argsOk, Bool.and_eq_true] at h
    simp only [wordsA, opsBy, hf c x (hx x (by simp)) h.1, opsBy_words hf h.2 (by simpa using hl) (fun y hy => hx y (by simp [hy]))]
    simp

theorem opsBy_len {f : UInt8 → List UInt8 → Option Int} : ∀ {cs : List UInt8} {ws : List (List UInt8)} {xs : List Int}, opsBy f cs ws = some xs → xs.length = cs.length
  | [], ws, xs, h => by simp [opsBy] at h; subst h; rfl
  | c :: cs, [], xs, h => by simp [opsBy] at h
  | c :: cs, w :: ws, xs, h => by
    simp only [opsBy] at h
    split at h
    · cases h
    · split at h
      · cases h
      · rename_i h2
        simp at h; subst h
        simp [opsBy_len h2]

theorem opsBy_all {f : UInt8 → List UInt8 → Option Int} {p : Int → Prop} (hf : ∀ c w x, f c w = some x → p x) : ∀ {cs : List UInt8} {ws : List (List UInt8)} {xs : List Int}, opsBy f cs ws = some xs → ∀ x ∈ xs, p x
  | [], ws, xs, h => by simp [opsBy] at h; subst h; simp
  | c :: cs, [], xs, h => by simp [opsBy] at h
  | c :: cs, w :: ws, xs, h => by
    simp only [opsBy] at h
    split at h
    · cases h
    · rename_i h1
      split at h
      · cases h
      · rename_i h2
        simp at h; subst h
        intro x hx
        rcases List.mem_cons.1 hx with rfl | hx
        · exact hf _ _ _ h1
        · exact opsBy_all hf h2 x hx

theorem opsR_inv : ∀ {cs : List UInt8} {ws : List (List UInt8)} {xs : List Int} (ys : List Int), opsBy opR cs ws = some xs → ws.length = cs.length → wordsA cs (xs ++ ys) = ws
  | [], ws, xs, ys, h, hl => by simp at hl; subst hl; simp [wordsA]
  | c :: cs, [], xs, ys, h, hl => by simp at hl
  | c :: cs, w :: ws, xs, ys, h, hl => by
    simp only [opsBy] at h
    split at h
    · cases h
    · rename_i h1
      split at h
      · cases h
      · rename_i h2
        simp at h; subst h
        simp only [List.cons_append, wordsA, (opR_inv h1).1, opsR_inv ys h2 (by simpa using hl)]

theorem insOf_fits {op : Nat} {xs : List Int} (hop : op < 35) (hl : xs.length ≤ 4) (h : ∀ x ∈ xs, i64 x) : (insOf op xs).fits := by
  obtain ⟨ys, e, hy⟩ := insOf_args (op := (op : Int)) hl
  have hi : ∀ x ∈ (insOf op xs).args, i64 x := by
    rw [e]; intro x hx
    rcases List.mem_append.1 hx with hx | hx
    · exact h x hx
    · rw [hy x hx]; exact ⟨by decide, by decide⟩
  exact ⟨by simp only [insOf]; omega, hi _ (by simp [Ins.args]), hi _ (by simp [Ins.args]), hi _ (by simp [Ins.args]), hi _ (by simp [Ins.args])⟩

theorem readBy_line {f : UInt8 → List UInt8 → Option Int} (hf : ∀ c x, i64 x → fitsC c x = true → f c (word c x) = some x) {i : Ins} {s : List UInt8} (h : IsLine i s) : readBy f s = some i := by
  obtain ⟨cs, hc, ha, _, hd⟩ := valid_inv h.valid
  have hl := cls_len hc
  have hs : Lib.split s [32] = wordsI i := by rw [← h.line]; exact split_line h.valid
  have hop : ((i.op.toNat : Nat) : Int) = i.op := by have := (cls_some hc).1; omega
  unfold readBy
  rw [hs]
  have hwl : ∀ {cs : List UInt8} {xs : List Int}, cs.length ≤ xs.length → (wordsA cs xs).length = cs.length := by
    intro cs
    induction cs with
    | nil => intro xs _; simp [wordsA]
    | cons c cs ih =>
      intro xs hx
      cases xs with
      | nil => simp at hx
      | cons x xs => simp [wordsA, ih (xs := xs) (by simpa using hx)]
  simp only [wordsI, List.headD_cons, opBy_mnem hc, hop, hd, List.length_cons, List.drop_succ_cons, List.drop_zero]
  rw [if_pos (by rw [hwl (by simpa [Ins.args] using hl)]), opsBy_words hf ha (by simpa [Ins.args] using hl) (fits_args h.fits)]
  simp only [args_take hl ha, h.valid, if_true]

theorem readBy_inv {f : UInt8 → List UInt8 → Option Int} (hf : ∀ c w x, f c w = some x → i64 x) {i : Ins} {s : List UInt8} (h : readBy f s = some i) : i.fits ∧ validI i = true := by
  unfold readBy at h
  dsimp only at h
  split at h
  · cases h
  · rename_i op ho
    obtain ⟨h1, h2, h3⟩ := opBy_some ho
    split at h
    · split at h
      · cases h
      · rename_i xs hx
        split at h
        · rename_i hv
          simp only [Option.some.injEq] at h; subst h
          have := cls_len h3
          exact ⟨insOf_fits h1 (by rw [opsBy_len hx]; exact this) (opsBy_all hf hx), hv⟩
        · cases h
    · cases h

theorem readP_eq (s : List UInt8) : readP s = readI s := by
  cases hr : readI s with
  | some i =>
    have h := readI_some.1 hr
    unfold readP
    rw [readBy_line (fun c x => opP_word) h]
    simp only [h.line, if_true]
  | none =>
    unfold readP
    split
    · rfl
    · rename_i i hi
      split
      · rename_i hl
        obtain ⟨h1, h2⟩ := readBy_inv (fun c w x => opP_bounds) hi
        rw [readI_some.2 ⟨h1, h2, hl⟩] at hr; cases hr
      · rfl

theorem readR_eq (s : List UInt8) : readR s = readI s := by
  cases hr : readI s with
  | some i => exact readBy_line (fun c x => opR_word) (readI_some.1 hr)
  | none =>
    unfold readR
    cases hi : readBy opR s with
    | none => rfl
    | some i =>
      obtain ⟨h1, h2⟩ := readBy_inv (fun c w x h => (opR_inv h).2) hi
      exfalso
      have : lineI i = s := by
        unfold readBy at hi
        dsimp only at hi
        split at hi
        · cases hi
        · rename_i op ho
          obtain ⟨h4, h5, h6⟩ := opBy_some ho
          split at hi
          · rename_i hlen
            split at hi
            · cases hi
            · rename_i xs hx
              split at hi
              · simp only [Option.some.injEq] at hi; subst hi
                obtain ⟨ys, e, hy⟩ := insOf_args (op := (op : Int)) (xs := xs) (by rw [opsBy_len hx]; exact cls_len h6)
                rw [lineI_join]
                unfold wordsI
                rw [e]
                simp only [insOf]
                rw [h5, opsR_inv ys hx (by simp; omega)]
                have hne : Lib.split s [32] ≠ [] := by intro e; rw [e] at hlen; simp at hlen
                have : (Lib.split s [32]).headD [] :: (Lib.split s [32]).drop 1 = Lib.split s [32] := by
                  cases h : Lib.split s [32] with
                  | nil => exact absurd h hne
                  | cons a b => simp
                rw [this]
                exact join_split 32 s.length s (Nat.le_refl _)
              · cases hi
          · cases hi
      rw [readI_some.2 ⟨h1, h2, this⟩] at hr; cases hr

/-! ## The reference's numeral -/
theorem fold_dec : ∀ (n u : Nat), u ≤ n → digFold 0 (Lib.decDigits u) = u
  | n, u, hn => by
    rw [Lib.decDigits]
    by_cases h : u < 10
    · rw [dif_pos h]
      simp [digFold, digNat h]; omega
    · rw [dif_neg h]
      cases n with
      | zero => omega
      | succ n =>
        unfold digFold
        rw [List.foldl_append]
        have := fold_dec n (u / 10) (by omega)
        unfold digFold at this
        rw [this]
        simp only [List.foldl_cons, List.foldl_nil, digNat (show u % 10 < 10 by omega)]
        omega
end Go.Ev.A
end
