/- Machine code: a line, the check of code, the text form. -/
import Derived.Test.YtglggojbbenobaaGreatDoorEvE4
set_option linter.all false
namespace Go.Ev.S
open Go.Proofs Go.Ev.A
variable (m : Int)

/-! ## strings.Builder -/
theorem ev_copyCheck_fresh (t : Nat) (x : V) (hx : x.size = 1) (rest : Cells) : ev (cfg m) 52 [.ptr t 0 []] ((t, .var 61 (.agg [.d .nilptr, x])) :: rest) = some (.tup [], (t, .var 61 (.agg [.ptr t 0 [], x])) :: rest) :=
  ev_prim (p := pCopyCheck 61) rfl (by simp [pCopyCheck, hx])
theorem ev_copyCheck_used (t : Nat) (x : V) (hx : x.size = 1) (rest : Cells) : ev (cfg m) 52 [.ptr t 0 []] ((t, .var 61 (.agg [.ptr t 0 [], x])) :: rest) = some (.tup [], (t, .var 61 (.agg [.ptr t 0 [], x])) :: rest) :=
  ev_prim (p := pCopyCheck 61) rfl (by simp [pCopyCheck, hx])

@[simp] theorem ofBytes_length (s : List UInt8) : (ofBytes s).length = s.length := by simp [ofBytes]
theorem ofBytes_append (s t : List UInt8) : ofBytes (s ++ t) = ofBytes s ++ ofBytes t := by simp [ofBytes]
@[simp] theorem bytesOf_ofBytes : ∀ (s : List UInt8), bytesOf (ofBytes s) = some s
  | [] => rfl
  | b :: s => by
    have h := bytesOf_ofBytes s
    have hb : (b.toNat : Int) < 256 := by have := b.toNat_lt; omega
    have hb0 : (0 : Int) ≤ b.toNat := by omega
    have he : UInt8.ofNat ((b.toNat : Int).toNat) = b := by simp
    unfold ofBytes at h ⊢
    simp only [List.map_cons, bytesOf, h, hb, hb0, and_self, if_true, he]
@[simp] theorem ofBytes_size (s : List UInt8) : (ofBytes s).all (fun x => x.size == 1) = true := by simp [ofBytes]

theorem ws_fresh (s : List UInt8) (hs : s.length ≤ 100000000000) : ev (cfg m) 28 [.ptr 0 0 [], .d (.str s)] [(0, .var 61 (.agg [.d .nilptr, .nils]))] =
    some (.tup [.d (.int .i64 s.length), .d .nilif], [(0, .var 61 (.agg [.ptr 0 0 [], .own 1536])), (1536, .row 5 1 (ofBytes s))]) := by
  refine ev_fnS (S := s_strings_Builder_WriteString) rfl rfl ?_
  have h1 := ev_copyCheck_fresh m 0 .nils rfl []
  have h2 : s.length ≤ 140737488355328 := by omega
  simp [s_strings_Builder_WriteString, callEff, reach, pass, over, without, noVars, newTags, pickT, swapped, V.ren, V.renL, Cell.ren, h1, h2]

theorem ws_used (b s : List UInt8) (hs : b.length + s.length ≤ 100000000000) : ev (cfg m) 28 [.ptr 0 0 [], .d (.str s)] [(0, .var 61 (.agg [.ptr 0 0 [], .own 1])), (1, .row 5 1 (ofBytes b))] =
    some (.tup [.d (.int .i64 s.length), .d .nilif], [(0, .var 61 (.agg [.ptr 0 0 [], .own 1])), (1, .row 5 1 (ofBytes (b ++ s)))]) := by
  refine ev_fnS (S := s_strings_Builder_WriteString) rfl rfl ?_
  have h1 := ev_copyCheck_used m 0 (.own 1) rfl [(1, .row 5 1 (ofBytes b))]
  have h2 : b.length + s.length ≤ 140737488355328 := by omega
  simp [s_strings_Builder_WriteString, callEff, reach, pass, over, without, noVars, newTags, pickT, swapped, V.ren, V.renL, Cell.ren, h1, h2, ofBytes_append, List.range_succ]

theorem bs_nil : ev (cfg m) 30 [.ptr 0 0 []] [(0, .var 61 (.agg [.d .nilptr, .nils]))] = some (.d (.str []), [(0, .var 61 (.agg [.d .nilptr, .nils]))]) :=
  ev_prim (p := pBString 61 5) rfl (by simp [pBString])
theorem bs_used (b : List UInt8) (hb : b ≠ []) (hs : b.length ≤ 100000000000) : ev (cfg m) 30 [.ptr 0 0 []] [(0, .var 61 (.agg [.ptr 0 0 [], .own 1])), (1, .row 5 1 (ofBytes b))] =
    some (.d (.str b), [(0, .var 61 (.agg [.ptr 0 0 [], .own 1])), (1, .frz (.sl (ofBytes b)))]) :=
  ev_prim (p := pBString 61 5) rfl (by
    have h2 : b.length ≤ 140737488355328 := by omega
    simp [pBString, hb, h2])


/-! ## A line -/
theorem tailA_app : ∀ (a b : List (List UInt8)), tailA (a ++ b) = tailA a ++ tailA b
  | [], b => rfl
  | w :: a, b => by simp [tailA, tailA_app a b]
theorem wordsA_get : ∀ {cs : List UInt8} {xs : List Int} {k : Nat} {c : UInt8} {x : Int}, cs[k]? = some c → xs[k]? = some x → (wordsA cs xs)[k]? = some (word c x)
  | c :: cs, x :: xs, 0, _, _, h1, h2 => by simp at h1 h2; subst h1; subst h2; rfl
  | c :: cs, x :: xs, k + 1, _, _, h1, h2 => by simp only [wordsA, List.getElem?_cons_succ] at h1 h2 ⊢; exact wordsA_get h1 h2
  | [], xs, k, _, _, h1, _ => by simp at h1
  | c :: cs, [], k, _, _, _, h2 => by simp at h2
theorem wordsA_len : ∀ {cs : List UInt8} {xs : List Int}, cs.length ≤ xs.length → (wordsA cs xs).length = cs.length
  | [], xs, _ => by simp [wordsA]
  | c :: cs, [], h => by simp at h
  | c :: cs, x :: xs, h => by simp [wordsA, wordsA_len (cs := cs) (xs := xs) (by simpa using h)]
theorem argsOk_get : ∀ {cs : List UInt8} {xs : List Int} {k : Nat} {c : UInt8} {x : Int}, argsOk cs xs = true → cs[k]? = some c → xs[k]? = some x → fitsC c x = true
  | c :: cs, x :: xs, 0, _, _, h, h1, h2 => by simp at h1 h2; subst h1; subst h2; simp [argsOk] at h; exact h.1
  | c :: cs, x :: xs, k + 1, _, _, h, h1, h2 => by simp only [List.getElem?_cons_succ] at h1 h2; simp [argsOk] at h; exact argsOk_get h.2 h1 h2
  | [], xs, k, _, _, _, h1, _ => by simp at h1
  | c :: cs, [], k, _, _, _, _, h2 => by simp at h2
theorem mnem_len {op : Int} {cs : List UInt8} (h : cls op = some cs) : (mnem op).length ≤ 7 := by
  rw [(clsD_tab h).2]
  have : ∀ k : Fin 35, ((mnTab[k.val]?).getD []).length ≤ 7 := by decide
  exact this ⟨_, (cls_some h).2.2⟩
theorem tailA_len : ∀ (ws : List (List UInt8)), (∀ w ∈ ws, w.length ≤ 22) → (tailA ws).length ≤ 23 * ws.length
  | [], _ => by simp [tailA]
  | w :: ws, h => by
    have h1 := h w (by simp)
    have h2 := tailA_len ws (fun v hv => h v (by simp [hv]))
    simp [tailA]; omega
theorem wordsA_mem : ∀ {cs : List UInt8} {xs : List Int}, (∀ x ∈ xs, i64 x) → ∀ w ∈ wordsA cs xs, w.length ≤ 22
  | [], xs, _, w, hw => by simp [wordsA] at hw
  | c :: cs, [], _, w, hw => by simp [wordsA] at hw
  | c :: cs, x :: xs, h, w, hw => by
    simp only [wordsA, List.mem_cons] at hw
    rcases hw with rfl | hw
    · exact word_len (h x (by simp))
    · exact wordsA_mem (fun y hy => h y (by simp [hy])) w hw
theorem line_len {i : Ins} (hf : i.fits) (hv : validI i = true) : (lineI i).length ≤ 99 := by
  obtain ⟨cs, hc, ha, _, hd⟩ := valid_inv hv
  unfold lineI
  rw [hd]
  have h1 := mnem_len hc
  have h2 := tailA_len (wordsA cs i.args) (wordsA_mem (fits_args hf))
  rw [wordsA_len (by simpa [Ins.args] using cls_len hc)] at h2
  have h3 := cls_len hc
  simp; omega

set_option maxHeartbeats 2000000 in
theorem e_line {i : Ins} (hf : i.fits) (hv : validI i = true) : ev1 (cfg m) 29 [.d i.D] = some (.d (.str (lineI i))) := by
  obtain ⟨cs, hc, ha, _, hd⟩ := valid_inv hv
  have hl := cls_len hc
  have h1 := mnem_len hc
  have hop := ev_places m i
  have hargs : i.args.length = 4 := rfl
  have hwl : (wordsA cs i.args).length = cs.length := wordsA_len (by omega)
  have h := loopS_upto (C := cfg m) (c := s_asm_line_l0) (ks := lnKs) (ts := lnTs) (fun k => lnSt i cs k (mnem i.op ++ tailA ((wordsA cs i.args).take k))) cs.length (x := .exit 0)
    (σ := { lnSt i cs cs.length (lineI i) with env := (lnSt i cs cs.length (lineI i)).env ++ [(19, .d (.bool false))] }) (by simp)
    (fun k hk => by
      have hk2 : cs[k]? = some cs[k] := List.getElem?_eq_getElem hk
      have hk3 : i.args[k]? = some i.args[k] := List.getElem?_eq_getElem (by omega)
      have hle := tailA_len ((wordsA cs i.args).take k) (fun w hw => wordsA_mem (fits_args hf) w (List.mem_of_mem_take hw))
      simp only [List.length_take] at hle
      obtain ⟨σ', g1, g2⟩ := ln_step m i cs hl (cls_mem hc) k cs[k] i.args[k] (mnem i.op ++ tailA ((wordsA cs i.args).take k)) (by simp; omega) hk2 hk3 (argsOk_get ha hk2 hk3) (fits_args hf _ (List.getElem_mem _))
      refine ⟨σ', g1, ?_⟩
      rw [g2]
      congr 1
      rw [List.take_add_one, wordsA_get hk2 hk3, tailA_app]
      simp [tailA])
    (by
      have e : (wordsA cs i.args).take cs.length = wordsA cs i.args := by rw [← hwl, List.take_length]
      rw [e]
      simp [s_asm_line_l0, lnSt, lineI, hd])
  refine ev1_fn rfl rfl ?_ rfl
  have e0 := e_classes m (op := i.op) (by have := cls_some hc; omega) (by have := cls_some hc; omega)
  rw [hd] at e0
  have e1 := e_mnem m hc
  simp [lnSt, lnKs, lnTs, tailA, ptrs, Ins.D] at h
  simp only [Ins.D, ptrs] at hop ⊢
  simp [s_asm_line, e0, e1, e_writers, callEff, reach, pass, over, without, noVars, newTags, pickT, swapped, V.ren, V.renL, Cell.ren, hop]
  simp [h]

/-! ## check -/
/-- A loop over a list that leaves at the first element that is not as it should be. -/
theorem loopS_all {α : Type} {C : Cfg} {c : SCode} {ks ts : List Nat} {l : List α} {p : α → Bool} (enc : Nat → St) {x : EX} {σe : St} (hx : x ≠ .normal)
    (hstep : ∀ i (h : i < l.length), p l[i] = true → ∃ σ', evalS C c (enc i) = some (.normal, σ') ∧ σ'.norm ks ts = enc (i + 1)) (hend : evalS C c (enc l.length) = some (x, σe))
    {Q : EX → St → Prop} (hstop : ∀ i (h : i < l.length), p l[i] = false → ∃ y σ, y ≠ .normal ∧ evalS C c (enc i) = some (y, σ) ∧ Q y σ) :
    if l.all p = true then loopS C c ks ts (enc 0) = some (x, σe) else ∃ y σ, loopS C c ks ts (enc 0) = some (y, σ) ∧ Q y σ := by
  cases hall : l.all p with
  | true =>
    rw [if_pos rfl]
    exact loopS_upto enc l.length hx (fun i hi => hstep i hi (List.all_eq_true.1 hall _ (List.getElem_mem hi))) hend
  | false =>
    rw [if_neg (by simp)]
    obtain ⟨j, hj, hjv, hjb⟩ : ∃ j, ∃ h : j < l.length, p l[j] = false ∧ ∀ i (h : i < j), ∀ h' : i < l.length, p l[i] = true := by
      have h1 : l.findIdx (fun c => !p c) < l.length := List.findIdx_lt_length.2 (by
        obtain ⟨x, hx, hx'⟩ := List.all_eq_false.1 hall
        exact ⟨x, hx, by simpa using hx'⟩)
      refine ⟨_, h1, by simpa using List.findIdx_getElem (w := h1), fun i hi h' => by simpa using List.not_of_lt_findIdx hi⟩
    obtain ⟨y, σ, h1, h2, h3⟩ := hstop j hj hjv
    exact ⟨y, σ, loopS_upto enc j h1 (fun i hi => hstep i (by omega) (hjb i hi (by omega))) h2, h3⟩

def ckSt (l : List Ins) (i : Nat) : St := { env := [(0, .d (.sl (l.map Ins.D))), (2, .d (.int .i64 0)), (7, .d (.bool false)), (8, .d (.sl (l.map Ins.D))), (9, .d (.int .i64 (l.length : Int))), (10, .d (.int .i64 (i : Int)))], cells := [] }
theorem e_check (l : List Ins) (hl : l.length ≤ 65536) : ev1 (cfg m) 27 [.d (.sl (l.map Ins.D))] = some (.d (.int .i64 (if l.all validI then 0 else 3))) := by
  refine ev1_fn rfl rfl ?_ rfl
  have h := loopS_all (C := cfg m) (c := s_asm_check_l0) (ks := [0, 2, 7, 8, 9, 10]) (ts := []) (l := l) (p := validI) (ckSt l) (x := .exit 0) (by simp)
    (fun i hi hv => by
      have hw := wrap_i64 ((i : Int) + 1) (by omega) (by omega)
      have hV := e_Valid m l[i]
      rw [hv] at hV
      simp [s_asm_check_l0, ckSt, hi, hV, hw])
    (by simp [s_asm_check_l0, ckSt]; rfl) (Q := fun y σ => y = .ret ∧ ∃ cs, result [.tmp 2] σ = some (.d (.int .i64 3), cs))
    (fun i hi hv => by
      have hV := e_Valid m l[i]
      rw [hv] at hV
      have : ∃ σ cs, evalS (cfg m) s_asm_check_l0 (ckSt l i) = some (.ret, σ) ∧ result [.tmp 2] σ = some (.d (.int .i64 3), cs) := by simp [s_asm_check_l0, ckSt, hi, hV]
      obtain ⟨σ, cs, h1, h2⟩ := this
      exact ⟨.ret, σ, by simp, h1, rfl, cs, h2⟩)
  have hgt : ¬ (65536 < (l.length : Int)) := by omega
  have hgt2 : ¬ (65536 < l.length) := by omega
  cases hall : l.all validI with
  | true =>
    rw [if_pos hall] at h
    simp [ckSt] at h
    simp [s_asm_check, h, hgt, hgt2]
  | false =>
    rw [if_neg (by simp [hall])] at h
    obtain ⟨y, σ, h1, rfl, cs, h2⟩ := h
    simp [ckSt] at h1
    simp [s_asm_check, h1, hgt, hgt2, -result]
    rw [h2]; simp

/-! ## Format -/
theorem textI_snoc (l : List Ins) (i : Ins) : textI (l ++ [i]) = textI l ++ (lineI i ++ [10]) := by simp [textI]
theorem textI_len : ∀ (l : List Ins), (∀ i ∈ l, i.fits ∧ validI i = true) → (textI l).length ≤ 100 * l.length
  | [], _ => by simp [textI]
  | i :: l, h => by
    have h1 := line_len (h i (by simp)).1 (h i (by simp)).2
    have h2 := textI_len l (fun j hj => h j (by simp [hj]))
    simp only [textI, List.map_cons, List.flatten_cons, List.length_append, List.length_cons, List.length_nil] at h2 ⊢
    omega

def bldC (fresh : Bool) (s : List UInt8) : Cells := if fresh then [(2024, .var 61 (.agg [.d .nilptr, .nils]))] else [(2024, .var 61 (.agg [.ptr 2024 0 [], .own 3060])), (3060, .row 5 1 (ofBytes s))]
def fmSt (l : List Ins) (fresh : Bool) (s : List UInt8) (i : Nat) : St := { env := [(0, .d (.sl (l.map Ins.D))), (2, .d (.str [])), (3, .d (.int .i64 0)), (4, .d (.int .i64 0)), (11, .d (.bool false)), (5, .ptr 2024 0 []), (13, .d (.sl (l.map Ins.D))), (14, .d (.int .i64 (l.length : Int))), (15, .d (.int .i64 (i : Int)))], cells := bldC fresh s }
set_option maxHeartbeats 2000000 in
theorem fm_step (l : List Ins) (hl : l.length ≤ 65536) (fresh : Bool) (s : List UInt8) (i : Nat) (hi : i < l.length) (hf : l[i].fits) (hv : validI l[i] = true) (hs : s.length ≤ 10000000) (h0 : fresh = true → s = []) :
    ∃ σ', evalS (cfg m) s_asm_Format_l0 (fmSt l fresh s i) = some (.normal, σ') ∧ σ'.norm [0, 2, 3, 4, 11, 5, 13, 14, 15] [2024] = fmSt l false (s ++ (lineI l[i] ++ [10])) (i + 1) := by
  have hw := wrap_i64 ((i : Int) + 1) (by omega) (by omega)
  have hL := e_line m hf hv
  have hll := line_len hf hv
  have b1 : (lineI l[i]).length + 1 ≤ 9223372036854775807 := by omega
  cases fresh with
  | true =>
    have := h0 rfl; subst this
    have hb := ws_fresh m (lineI l[i] ++ [10]) (by simp; omega)
    simp [s_asm_Format_l0, fmSt, bldC, hi, hL, b1, hw, callEff, reach, pass, over, without, noVars, newTags, pickT, swapped, V.ren, V.renL, Cell.ren, hb]
  | false =>
    have hb := ws_used m s (lineI l[i] ++ [10]) (by simp; omega)
    simp [s_asm_Format_l0, fmSt, bldC, hi, hL, b1, hw, callEff, reach, pass, over, without, noVars, newTags, pickT, swapped, V.ren, V.renL, Cell.ren, hb, List.range_succ]

set_option maxHeartbeats 2000000 in
theorem e_Format (l : List Ins) (hl : l.length ≤ 65536) (hf : ∀ i ∈ l, i.fits) : ev1 (cfg m) 13 [.d (.sl (l.map Ins.D))] = some (.tup [.d (.str (if l.all validI then textI l else [])), .d (.int .i64 (if l.all validI then 0 else 3))]) := by
  refine ev1_fn rfl rfl ?_ rfl
  have hc := e_check m l hl
  cases hall : l.all validI with
  | false =>
    rw [hall] at hc
    simp at hc
    simp [s_asm_Format, hc]
  | true =>
    rw [hall] at hc
    simp at hc
    have hv : ∀ i ∈ l, validI i = true := List.all_eq_true.1 hall
    have h := loopS_upto (C := cfg m) (c := s_asm_Format_l0) (ks := [0, 2, 3, 4, 11, 5, 13, 14, 15]) (ts := [2024]) (fun k => fmSt l (decide (k = 0)) (textI (l.take k)) k) l.length (x := .exit 0)
      (σ := { fmSt l (decide (l.length = 0)) (textI l) l.length with env := (fmSt l (decide (l.length = 0)) (textI l) l.length).env ++ [(16, .d (.bool false))] }) (by simp)
      (fun k hk => by
        have hlen := textI_len (l.take k) (fun i hi => ⟨hf i (List.mem_of_mem_take hi), hv i (List.mem_of_mem_take hi)⟩)
        simp only [List.length_take] at hlen
        obtain ⟨σ', g1, g2⟩ := fm_step m l hl (decide (k = 0)) (textI (l.take k)) k hk (hf _ (List.getElem_mem hk)) (hv _ (List.getElem_mem hk)) (by omega) (fun h => by simp at h; subst h; simp [textI])
        refine ⟨σ', g1, ?_⟩
        have ht : l.take (k + 1) = l.take k ++ [l[k]] := by rw [List.take_add_one]; simp [hk]
        rw [g2, ht, textI_snoc]
        simp)
      (by rw [List.take_length]; simp [s_asm_Format_l0, fmSt])
    have h0 : fmSt l (decide (0 = 0)) (textI (l.take 0)) 0 = fmSt l true [] 0 := by simp [textI]
    rw [h0] at h
    cases l with
    | nil =>
      simp [fmSt, bldC] at h
      have hb := bs_nil m
      simp at hc
      simp [s_asm_Format, hc]
      simp [h, callEff, reach, pass, over, without, noVars, newTags, pickT, swapped, V.ren, V.renL, Cell.ren, hb, textI]
    | cons i l =>
      have hne : textI (i :: l) ≠ [] := by simp [textI]
      have hlen := textI_len (i :: l) (fun j hj => ⟨hf j hj, hv j hj⟩)
      simp [fmSt, bldC] at h
      have hb := bs_used m (textI (i :: l)) hne (by omega)
      simp at hc
      simp [s_asm_Format, hc]
      rw [h]
      simp [callEff, reach, pass, over, without, noVars, newTags, pickT, swapped, V.ren, V.renL, Cell.ren, List.range_succ, hb]
end Go.Ev.S
