/- Machine code: a line read: the instruction whose text it is, or nothing. -/
import Derived.Test.YtglggojbbenobaaGreatDoorEvE11
set_option linter.all false
namespace Go.Ev.S
open Go.Proofs Go.Ev.A
variable (m : Int)

theorem split_facts : ∀ (n : Nat) (s : List UInt8), s.length ≤ n → ∃ w ws, Lib.split s [32] = w :: ws ∧ (∀ x ∈ w :: ws, x.length ≤ s.length) ∧ ws.length ≤ s.length := by
  intro n
  induction n with
  | zero =>
    intro s h
    obtain rfl : s = [] := List.length_eq_zero_iff.1 (by omega)
    exact ⟨[], [], split_none (by simp), by simp, by simp⟩
  | succ n ih =>
    intro s h
    rcases index_cases s 32 with ⟨h1, _⟩ | ⟨w, t, rfl, h2, _⟩
    · exact ⟨s, [], split_none h1, by simp, by simp⟩
    · simp only [List.length_append, List.length_cons] at h
      obtain ⟨w', ws', g1, g2, g3⟩ := ih t (by omega)
      refine ⟨w, w' :: ws', by rw [split_at h2, g1], ?_, by simp; omega⟩
      intro x hx
      simp only [List.length_append, List.length_cons]
      rcases List.mem_cons.1 hx with rfl | hx
      · omega
      · have := g2 x hx; omega

theorem prim_splitL (s : List UInt8) (hs : s.length ≤ 1000000) : ev1 (cfg m) 58 [.d (.str s), .d (.str [32])] = some (.d (.sl ((Lib.split s [32]).map .str))) := by
  refine ev1_pure rfl ?_ rfl
  have : Nat.ble s.length 4294967280 = true := by rw [Nat.ble_eq]; omega
  simp [p2, this]

theorem opsBy_drop {f : UInt8 → List UInt8 → Option Int} {cs : List UInt8} {ws : List (List UInt8)} {k : Nat} {c : UInt8} {w : List UInt8} (hc : cs[k]? = some c) (hw : ws[k]? = some w) :
    opsBy f (cs.drop k) (ws.drop k) = match f c w with
      | none => none
      | some x => match opsBy f (cs.drop (k + 1)) (ws.drop (k + 1)) with
        | none => none
        | some xs => some (x :: xs) := by
  obtain ⟨h1, h2⟩ := List.getElem?_eq_some_iff.1 hc
  obtain ⟨h3, h4⟩ := List.getElem?_eq_some_iff.1 hw
  rw [List.drop_eq_getElem_cons h1, List.drop_eq_getElem_cons h3, h2, h4]
  simp only [opsBy]
  cases f c w with
  | none => rfl
  | some x => cases opsBy f (cs.drop (k + 1)) (ws.drop (k + 1)) <;> rfl

def paEx (s : List UInt8) (W : List (List UInt8)) (op : Nat) (cs : List UInt8) (xs : List Int) : St :=
  { paSt s W op cs cs.length xs with env := (paSt s W op cs cs.length xs).env ++ [(43, .tup [.d (.bool false)]), (44, .d (.bool false))] }

theorem pa_loop (s w0 : List UInt8) (ws : List (List UInt8)) (op : Nat) (cs : List UInt8) (hl : cs.length ≤ 4) (hm : ∀ c ∈ cs, c = 114 ∨ c = 107 ∨ c = 116 ∨ c = 101 ∨ c = 111 ∨ c = 110) (hws : ws.length = cs.length) (hwl : ∀ w ∈ ws, w.length ≤ 1000000) :
    ∀ (j k : Nat) (xs : List Int), k + j = cs.length → xs.length = k →
    match opsBy opP (cs.drop k) (ws.drop k) with
    | some ys => loopS (cfg m) s_asm_parse_l0 paKs paTs (paSt s (w0 :: ws) op cs k xs) = some (.exit 0, paEx s (w0 :: ws) op cs (xs ++ ys))
    | none => ∃ σ' cs', loopS (cfg m) s_asm_parse_l0 paKs paTs (paSt s (w0 :: ws) op cs k xs) = some (.ret, σ') ∧ result [.cell 4 5 true, .tmp 5] σ' = some (.tup [.d zIns.D, .d (.bool false)], cs') := by
  intro j
  induction j with
  | zero =>
    intro k xs hk hx
    obtain rfl : k = cs.length := by omega
    rw [List.drop_length]
    simp only [opsBy, List.append_nil]
    refine loopS_exit ?_
    simp [s_asm_parse_l0, paSt, paEx]
  | succ j ih =>
    intro k xs hk hx
    have h1 : k < cs.length := by omega
    have hc : cs[k]? = some cs[k] := List.getElem?_eq_getElem h1
    have hw : ws[k]? = some (ws[k]'(by omega)) := List.getElem?_eq_getElem (by omega)
    have hst := pa_step m s w0 ws op cs hl hm hws k xs hx _ _ hc hw (hwl _ (List.getElem_mem _))
    rw [opsBy_drop hc hw]
    cases hop : opP cs[k] (ws[k]'(by omega)) with
    | none =>
      rw [hop] at hst
      obtain ⟨σ', cs', g1, g2⟩ := hst
      exact ⟨σ', cs', loopS_ret g1, g2⟩
    | some x =>
      rw [hop] at hst
      obtain ⟨σ', g1, g2⟩ := hst
      have := ih (k + 1) (xs ++ [x]) (by omega) (by simp [hx])
      simp only
      cases hq : opsBy opP (cs.drop (k + 1)) (ws.drop (k + 1)) with
      | none =>
        rw [hq] at this
        obtain ⟨σ'', cs', g3, g4⟩ := this
        exact ⟨σ'', cs', loopS_step g1 (by rw [g2]; exact g3), g4⟩
      | some ys =>
        rw [hq] at this
        simp only at this ⊢
        rw [loopS_step g1 (by rw [g2]; exact this), List.append_assoc]; rfl

set_option maxHeartbeats 4000000 in
theorem e_parse (s : List UInt8) (hs : s.length ≤ 1000000) : ∃ i ok, ev1 (cfg m) 43 [.d (.str s), .d (.map mnK mnO)] = some (.tup [.d i.D, .d (.bool ok)]) ∧ ((ok = true ∧ readI s = some i) ∨ (ok = false ∧ readI s = none)) := by
  have hfin : ∀ (i : Ins) b, (∃ cs, bodyS (cfg m) s_asm_parse [.d (.str s), .d (.map mnK mnO)] [] = some (.tup [.d i.D, .d (.bool b)], cs)) → ev1 (cfg m) 43 [.d (.str s), .d (.map mnK mnO)] = some (.tup [.d i.D, .d (.bool b)]) := by
    rintro i b ⟨cs, h⟩
    exact ev1_fn rfl rfl (by rw [h]; rfl) rfl
  rw [← readP_eq]
  obtain ⟨w0, ws, hW, hwl, hwc⟩ := split_facts _ s (Nat.le_refl _)
  have hsp := prim_splitL m s hs
  rw [hW] at hsp
  unfold readP readBy
  rw [hW]
  simp only [List.headD_cons, List.drop_succ_cons, List.drop_zero, List.length_cons]
  have hk := mnK_at w0
  cases hop : opBy w0 with
  | none =>
    rw [hop] at hk
    refine ⟨zIns, false, hfin _ _ ?_, .inr ⟨rfl, rfl⟩⟩
    have e0 := e_classes m (op := 0) (by decide) (by decide)
    simp [s_asm_parse, hsp, hk, e0, zIns, Ins.D]
  | some op =>
    rw [hop] at hk
    obtain ⟨h35, hmn, hcl⟩ := opBy_some hop
    have hg := mnO_get h35
    have e0 := e_classes m (op := (op : Int)) (by omega) (by omega)
    simp only
    generalize hcs : clsD (op : Int) = cs at hcl e0 ⊢
    have hwr := wrap_i64 ((cs.length : Int) + 1) (by have := cls_len hcl; omega) (by have := cls_len hcl; omega)
    by_cases hlen : ws.length = cs.length
    · have hlp := pa_loop m s w0 ws op cs (cls_len hcl) (cls_mem hcl) hlen (fun w hw => by have := hwl w (by simp [hw]); omega) cs.length 0 [] (by omega) rfl
      simp only [List.drop_zero, List.nil_append] at hlp
      have hpl := ev_places m (insOf (op : Int) [])
      rw [if_pos (by omega)]
      simp only [Ins.D, ptrs, insOf, List.getD_nil] at hpl
      cases hq : opsBy opP cs ws with
      | none =>
        rw [hq] at hlp
        obtain ⟨σ', cs', g1, g2⟩ := hlp
        refine ⟨zIns, false, hfin _ _ ⟨cs', ?_⟩, .inr ⟨rfl, rfl⟩⟩
        simp [paSt, paKs, paTs, zIns, Ins.D, insOf, ptrs] at g1
        simp [s_asm_parse, hsp, hk, hg, e0, hwr, hlen, callEff, reach, pass, over, without, noVars, newTags, pickT, swapped, V.ren, V.renL, Cell.ren, hpl, g1, -result]
        exact g2
      | some xs =>
        rw [hq] at hlp
        simp only at hlp ⊢
        have hb : ∀ x ∈ xs, i64 x := opsBy_all (fun c w x => opP_bounds) hq
        have hfit : (insOf (op : Int) xs).fits := insOf_fits h35 (by rw [opsBy_len hq]; exact cls_len hcl) hb
        have hV := e_Valid m (insOf (op : Int) xs)
        have hL : validI (insOf (op : Int) xs) = true → _ := fun h => e_line m hfit h
        have hZ : zIns.D = .agg [.int .u8 0, .int .i64 0, .int .i64 0, .int .i64 0, .int .i64 0] := rfl
        have hsz := Ins_size (insOf (op : Int) xs)
        have hag := Ins_isAgg (insOf (op : Int) xs)
        have hI : (insOf (op : Int) []).D = .agg [.int .u8 (op : Int), .int .i64 0, .int .i64 0, .int .i64 0, .int .i64 0] := by simp [insOf, Ins.D]
        simp only [paSt, paEx, hI, hZ] at hlp
        generalize insOf (op : Int) xs = i at *
        cases hv : validI i with
        | false =>
          rw [hv] at hV
          refine ⟨i, false, hfin _ _ ?_, .inr ⟨rfl, by simp⟩⟩
          simp [paKs, paTs, ptrs] at hlp
          simp [s_asm_parse, hsp, hk, hg, e0, hwr, hlen, callEff, reach, pass, over, without, noVars, newTags, pickT, swapped, V.ren, V.renL, Cell.ren, hpl, hlp, hV]
        | true =>
          rw [hv] at hV
          have hL := hL hv
          by_cases hls : lineI i = s
          · refine ⟨i, true, hfin _ _ ?_, .inl ⟨rfl, by simp [hls]⟩⟩
            simp [paKs, paTs, ptrs] at hlp
            simp [s_asm_parse, hsp, hk, hg, e0, hwr, hlen, callEff, reach, pass, over, without, noVars, newTags, pickT, swapped, V.ren, V.renL, Cell.ren, hpl, hlp, hV, hL, hls]
          · refine ⟨i, false, hfin _ _ ?_, .inr ⟨rfl, by simp [hls]⟩⟩
            simp [paKs, paTs, ptrs] at hlp
            simp [s_asm_parse, hsp, hk, hg, e0, hwr, hlen, callEff, reach, pass, over, without, noVars, newTags, pickT, swapped, V.ren, V.renL, Cell.ren, hpl, hlp, hV, hL, hls]
    · rw [if_neg (by omega)]
      refine ⟨zIns, false, hfin _ _ ?_, .inr ⟨rfl, rfl⟩⟩
      have hne : ¬ ((ws.length : Int) + 1 = (cs.length : Int) + 1) := by omega
      simp [s_asm_parse, hsp, hk, hg, e0, hwr, hne, hlen, zIns, Ins.D]
end Go.Ev.S
