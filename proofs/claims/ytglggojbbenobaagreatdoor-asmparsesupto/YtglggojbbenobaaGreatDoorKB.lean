/- A verified evaluator of loaded functions, part KB: what it computes, the machine does. Plain texts joined. -/
import Derived.Test.YtglggojbbenobaaGreatDoorKA
import Derived.Laws.StructEq
import Derived.Laws.BytesString
import Derived.Orders
import Derived.LoopN
set_option linter.all false

/- Each operation of the model does what the evaluator says: lengths, maps, conversions, append. -/
section
namespace Go.Ev
variable {P : Program} {gl : Nat → Option D}
variable {w0 : World} {O : Nat → Prop} {H0 : Imm} {N : Nat} {K : Nat → Prop} {B0 : Bind} {H : Imm} {B : Bind} {σ : St} {a : Act} {w : World} {o : Oper}

theorem run_builtin {b : Builtin} {args : Array Operand} {ts : Array TypeId} (hop : o.op = .call { callee := .builtin b, args := args, argTypes := ts }) :
    (execOp a.eval o).run P w = (builtin b ts o.type (args.map fun | .const _ => true | _ => false) (args.map a.eval)).run P w := by
  simp [execOp, hop, resolve, invoke]
  rfl

theorem arr1 {α : Type} {l : Array α} {x : α} (h : l.toList = [x]) : l = #[x] := by cases l; simpa using h
theorem arr2 {α : Type} {l : Array α} {x y : α} (h : l.toList = [x, y]) : l = #[x, y] := by cases l; simpa using h

theorem run_getObj {r : Nat} {ob : Obj} (h : w.heap[r]? = some ob) (hc : ∀ c e f, ob ≠ .cells c e f) : (getObj r).run P w = .ok ob w := by
  cases ob <;> first | exact absurd rfl (hc _ _ _) | simp [getObj, Sem.run, h]

theorem mp_of_view (I : Inv w0 O H0 N K B0 H B σ a w) {x : V} {v : Value} {ks vs : List D} (hX : RVv H B x v) (hv : mpView σ.get x = some (ks, vs)) :
    (v = .map none ∧ ks = [] ∧ vs = []) ∨ ∃ r es clk, v = .map (some r) ∧ w.heap[r]? = some (.map es clk) ∧ RDvs H ks (es.toList.map (·.key)) ∧ RDvs H vs (es.toList.map (·.val)) := by
  unfold mpView at hv
  split at hv
  · rename_i t
    obtain ⟨r, hB, he⟩ := hX.mp_inv
    split at hv
    · rename_i hg
      simp at hv; obtain ⟨rfl, rfl⟩ := hv
      obtain ⟨r', es, clk, h1, h2, _, h3, h4⟩ := I.cells _ _ hg
      rw [hB] at h1; cases h1
      exact .inr ⟨r', es, clk, he, h2, h3, h4⟩
    · rename_i hg
      simp at hv; obtain ⟨rfl, rfl⟩ := hv
      have : RD H (.map _ _) [B t] := I.cells _ _ hg
      rw [hB] at this
      cases this with | map h1 _ h2 h3 => exact .inr ⟨_, _, _, he, I.imm _ _ h1, h2, h3⟩
    · simp at hv
  · simp at hv; obtain ⟨rfl, rfl⟩ := hv
    have := hX.d_inv rfl
    generalize hvv : [v] = vl at this
    cases this with | map h1 _ h2 h3 => simp at hvv; exact .inr ⟨_, _, _, hvv, I.imm _ _ h1, h2, h3⟩
  · simp at hv; obtain ⟨rfl, rfl⟩ := hv
    have := hX.d_inv rfl
    cases this; exact .inl ⟨rfl, rfl, rfl⟩
  · simp at hv

theorem RDvs.list {l : List D} {vs : List Value} (h : RDvs H l vs) : vs.length = l.length := by
  induction l generalizing vs with
  | nil => cases h; rfl
  | cons x l ih => cases h with | cons _ h2 => simp [ih h2]

theorem own_len (I : Inv w0 O H0 N K B0 H B σ a w) {e : TypeId} {t sz : Nat} {l : List D} {v : Value} (hX : RVv H B (.own t) v) (hg : σ.get t = some (.row e sz l)) : ∃ ad cap, B t = .slice ad l.length cap ∧ v = .slice ad l.length cap ∧ l.length ≤ cap := by
  obtain ⟨ad, n, cap, hB, he⟩ := hX.own_inv
  rcases I.cells _ _ hg with ⟨rfl, h1⟩ | ⟨b, cap', c, cs, post, h1, h2, h3, h4, h5, h6, h7⟩
  · rw [hB] at h1; cases h1; exact ⟨none, 0, hB, he, Nat.le_refl _⟩
  · rw [hB] at h1; cases h1; exact ⟨_, _, hB, he, h6⟩

theorem frz_len {v : Value} {s : List D} (h : RD H (.sl s) [v]) : ∃ ad cap, v = .slice ad s.length cap := by
  cases h with
  | sl0 ad cap => exact ⟨ad, cap, rfl⟩
  | sl _ _ _ _ _ _ _ => exact ⟨_, _, rfl⟩

theorem len_ok (G : GlOk gl H0) (I : Inv w0 O H0 N K B0 H B σ a w) (hd : ∀ d, o.dst = some d → d < N) {x : Operand} {X' : X} {t : TypeId} {ts : Array TypeId} {args : Array Operand} {d : TypeDesc} {k : TC} {e : Eff} {call : CallF} {T : Nat}
    (hop : o.op = .call { callee := .builtin .len, args := args, argTypes := ts }) (hts : ts.toList = [t]) (hargs : args.toList = [x]) (hu : P.underlying t = some d)
    (hdk : (k = .str ∧ d = .string) ∨ (k = .sl ∧ ∃ e, d = .slice e) ∨ (k = .map ∧ ∃ k e, d = .map k e)) (hx : cX x = some X')
    (h : evalOp call T (.len k X') (σ.val gl) σ.get = some e) : Done P w0 O H0 N K B0 H σ a w o e := by
  have hX := X_ok G I hx
  obtain rfl := arr1 hts
  obtain rfl := arr1 hargs
  have hrun : ∀ {n : Int}, (Builtin.len_ #[t] o.type #[a.eval x]).run P w = .ok (.int .i64 n) w → (execOp a.eval o).run P w = .ok (.value (.int .i64 n)) w := by
    intro n hn
    rw [run_builtin hop]
    simp [builtin, hn]
  simp only [evalOp, okEff] at h
  rcases hdk with ⟨rfl, rfl⟩ | ⟨rfl, el, rfl⟩ | ⟨rfl, kt, el, rfl⟩
  · simp only at h
    split at h
    · rename_i s hval
      rw [hval] at hX
      simp at h; subst h
      have hsz : (⟨⟨s⟩⟩ : ByteArray).size = s.length := rfl
      exact Done.val I hd (hrun (by simp [Builtin.len_, run_underlying hu, hX.str_inv, goInt, hsz])) (.one rfl (.d (.int _ _)))
    · simp at h
  · simp only at h
    split at h
    · rename_i tt sz l hv
      obtain ⟨hval, hg⟩ := own_of_view hv
      rw [hval] at hX
      obtain ⟨ad, cap, _, he, _⟩ := own_len I hX hg
      simp at h; subst h
      exact Done.val I hd (hrun (by simp [Builtin.len_, run_underlying hu, he, goInt])) (.one rfl (.d (.int _ _)))
    · rename_i l hv
      obtain ⟨ad, cap, he⟩ := frz_len (frz_of_view I hX hv)
      simp at h; subst h
      exact Done.val I hd (hrun (by simp [Builtin.len_, run_underlying hu, he, goInt])) (.one rfl (.d (.int _ _)))
    · rename_i hv
      have hval := nil_of_view hv
      rw [hval] at hX
      simp at h; subst h
      exact Done.val I hd (hrun (by simp [Builtin.len_, run_underlying hu, hX.nils_inv, goInt])) (.one rfl (.d (.int _ _)))
    · split at h
      · rename_i tt n hval
        rw [hval] at hX
        obtain ⟨b, hB, he⟩ := hX.sptr_inv
        simp at h; subst h
        exact Done.val I hd (hrun (by simp [Builtin.len_, run_underlying hu, he, goInt])) (.one rfl (.d (.int _ _)))
      · simp at h
  · simp only at h
    split at h
    · rename_i ks vs hv
      simp at h; subst h
      rcases mp_of_view I hX hv with ⟨he, rfl, rfl⟩ | ⟨r, es, clk, he, hr, h1, h2⟩
      · exact Done.val I hd (hrun (by simp [Builtin.len_, run_underlying hu, he, goInt])) (.one rfl (.d (.int _ _)))
      · have hl := h1.list
        simp only [List.length_map, Array.length_toList] at hl
        refine Done.val I hd (hrun (n := ks.length) ?_) (.one rfl (.d (.int _ _)))
        simp [Builtin.len_, run_underlying hu, he, goInt, run_getObj hr (by simp), hl]
    · simp at h

/-! ## Maps -/
theorem RDv.one_inv {x : D} {v : Value} (h : RDv H x v) (hx : x.isAgg = false) : RD H x [v] := by
  cases h with
  | one _ h => exact h
  | agg h => simp [D.isAgg] at hx

/-- The model's look for a key finds what 'keyAt' finds. -/
theorem findNow_ok {kt : TypeId} {key : D} {kv : Value} {d : TypeDesc} (hd : P.underlying kt = some d) (hk : RD H key [kv]) (hf : keyFits (tcOf P kt) key = true) :
    ∀ {ks vs : List D} {es : List MapEntry} {i : Nat} {r : Option Nat}, RDvs H ks (es.map (·.key)) → RDvs H vs (es.map (·.val)) → keyAt key ks = some r →
      ∃ q, Instr.findNow d kv es i = some q ∧ (r = none → q = none) ∧ (∀ j, r = some j → ∃ y v e, vs[j]? = some y ∧ es[j]? = some e ∧ e.val = v ∧ RDv H y v ∧ q = some (i + j, v) ∧ Instr.sameBits 10000 e.key kv = true)
  | ks, vs, [], i, r, h1, h2, h => by
    cases h1; simp [keyAt] at h; subst h
    exact ⟨none, rfl, fun _ => rfl, fun j hj => by simp at hj⟩
  | ks, vs, en :: es, i, r, h1, h2, h => by
    cases h1 with
    | cons hx h1 =>
      cases h2 with
      | cons hy h2 =>
        rename_i x l y l2
        simp only [keyAt] at h
        cases hq : keyEq key x with
        | none => simp [hq] at h
        | some b =>
          -- the model's own comparison says the same
          have hsame : Instr.sameNow d kv en.key = some b ∧ (b = true → Instr.sameBits 10000 en.key kv = true) := by
            unfold keyEq at hq
            split at hq
            · have h3 : RD H _ [en.key] := hx.one_inv rfl
              generalize en.key = ek at h3 ⊢
              cases hk; cases h3
              have : ∃ k, d = .int k := by
                unfold tcOf at hf; rw [hd] at hf
                cases d <;> simp [keyFits] at hf; exact ⟨_, rfl⟩
              obtain ⟨kk, rfl⟩ := this
              split at hq
              · rename_i hkk; subst hkk; simp at hq; subst hq
                refine ⟨by simp [Instr.sameNow]; rfl, fun hb => ?_⟩
                simp at hb; subst hb
                unfold Instr.sameBits; simp
              · simp at hq
            · have h3 : RD H _ [en.key] := hx.one_inv rfl
              generalize en.key = ek at h3 ⊢
              cases hk; cases h3
              have : d = .string := by
                unfold tcOf at hf; rw [hd] at hf
                cases d <;> simp [keyFits] at hf; rfl
              subst this
              simp at hq; subst hq
              rename_i s s'
              have hbeq : ((⟨⟨s⟩⟩ : ByteArray) == ⟨⟨s'⟩⟩) = decide (s = s') := by
                rw [beq_toListBytes, ByteArray.toList_eq, ByteArray.toList_eq, Bool.eq_iff_iff]; simp
              refine ⟨by simp only [Instr.sameNow, hbeq], fun hb => ?_⟩
              simp at hb; subst hb
              show (_ == _) = true
              rw [hbeq]; simp
            · have h3 : RD H _ [en.key] := hx.one_inv rfl
              generalize en.key = ek at h3 ⊢
              cases hk; cases h3
              have : d = .bool := by
                unfold tcOf at hf; rw [hd] at hf
                cases d <;> simp [keyFits] at hf; rfl
              subst this
              simp at hq; subst hq
              rename_i s s'
              refine ⟨by simp [Instr.sameNow], fun hb => ?_⟩
              simp at hb; subst hb
              unfold Instr.sameBits; simp
            · simp at hq
          rw [hq] at h
          simp only [Instr.findNow, hsame.1]
          cases b with
          | true =>
            simp at h; subst h
            refine ⟨_, rfl, by simp, fun j hj => ?_⟩
            simp at hj; subst hj
            exact ⟨y, _, en, rfl, rfl, rfl, hy, rfl, hsame.2 rfl⟩
          | false =>
            simp only at h
            cases hr : keyAt key l with
            | none => simp [hr] at h
            | some r' =>
              obtain ⟨q, hq1, hq2, hq3⟩ := findNow_ok (i := i + 1) hd hk hf h1 h2 hr
              cases r' with
              | none =>
                simp [hr] at h; subst h
                exact ⟨q, hq1, hq2, fun j hj => by simp at hj⟩
              | some j =>
                simp [hr] at h; subst h
                obtain ⟨y', v, e', h3, h4, h5, h6, h7, h8⟩ := hq3 j rfl
                refine ⟨q, hq1, by simp, fun j' hj' => ?_⟩
                simp at hj'; subst hj'
                exact ⟨y', v, e', by simpa using h3, by simpa using h4, h5, h6, by rw [h7]; simp [Nat.add_assoc, Nat.add_comm 1 j], h8⟩

theorem run_checkKey {kt : TypeId} {v : Value} (b : Bool) (hk : keyOk P kt = true) : ∀ n, (Instr.checkKey b (n + 1) kt v).run P w = .ok () w := by
  intro n
  unfold keyOk at hk
  cases hu : P.underlying kt with
  | none => simp [hu] at hk
  | some d =>
    simp only [hu] at hk
    cases d <;> simp at hk <;> simp [Instr.checkKey, run_underlying hu]

theorem run_findKey {kt : TypeId} {key : D} {kv : Value} {ks vs : List D} {es : List MapEntry} {r : Option Nat} (hk : RD H key [kv]) (hf : keyFits (tcOf P kt) key = true) (hko : keyOk P kt = true)
    (h1 : RDvs H ks (es.map (·.key))) (h2 : RDvs H vs (es.map (·.val))) (h : keyAt key ks = some r) :
    ∃ q, (Instr.findKey kt kv es).run P w = .ok q w ∧ (r = none → q = none) ∧ (∀ j, r = some j → ∃ y v e, vs[j]? = some y ∧ es[j]? = some e ∧ e.val = v ∧ RDv H y v ∧ q = some (j, v) ∧ Instr.sameBits 10000 e.key kv = true) := by
  cases hu : P.underlying kt with
  | none => simp [keyOk, hu] at hko
  | some d =>
    obtain ⟨q, hq, h3, h4⟩ := findNow_ok (i := 0) hu hk hf h1 h2 h
    refine ⟨q, by simp [Instr.findKey, run_underlying hu, hq], h3, fun j hj => ?_⟩
    obtain ⟨y, v, e, h5, h6, h7, h8, h9, h10⟩ := h4 j hj
    exact ⟨y, v, e, h5, h6, h7, h8, by simpa using h9, h10⟩

theorem RDv.toV {x : D} {v : Value} (h : RDv H x v) : RVv H B (.d x) v := by
  cases h with
  | one h1 h2 => exact .one h1 (.d h2)
  | agg h1 => exact .agg rfl (.d (.agg h1))

theorem RVv.toD {x : D} {v : Value} (h : RVv H B (.d x) v) : RDv H x v := by
  cases h with
  | one h1 h2 => cases h2 with | d h3 => exact .one h1 h3
  | agg h1 h2 => cases h2 with
    | d h3 => cases h3 <;> first | (simp [V.isAgg, D.isAgg] at h1; done) | exact .agg ‹_›

theorem toD_inv {v : V} {x : D} (h : toD v = some x) : v = .d x := by
  cases v <;> simp [toD] at h; subst h; rfl

theorem keyFits_flat {kc : TC} {key : D} (h : keyFits kc key = true) : key.isAgg = false := by
  cases key <;> first | rfl | (cases kc <;> simp [keyFits] at h)

theorem lk_ok (G : GlOk gl H0) (I : Inv w0 O H0 N K B0 H B σ a w) (hd : ∀ d, o.dst = some d → d < N) {t kt el : TypeId} {x y : Operand} {X' Y : X} {z : V} {ok : Bool} {e : Eff} {call : CallF} {T : Nat}
    (hop : o.op = .lookup t x y ok) (hu : P.underlying t = some (.map kt el)) (hko : keyOk P kt = true) (hz : zeroOf P el = some z) (hx : cX x = some X') (hy : cX y = some Y)
    (h : evalOp call T (.lk (tcOf P kt) z X' Y ok) (σ.val gl) σ.get = some e) : Done P w0 O H0 N K B0 H σ a w o e := by
  have hX := X_ok G I hx
  have hY := X_ok G I hy
  simp only [evalOp, okEff] at h
  split at h
  · rename_i ks vs key hv hkey
    split at h
    · rename_i hf
      rw [toD_inv hkey] at hY
      have hYd := hY.d_inv (keyFits_flat hf)
      obtain ⟨zv, hzv, hzr, _⟩ := zeroOf_ok (H := H) (B := B) hz
      -- the entries as the call sees them
      have hes : ∃ es : List MapEntry, RDvs H ks (es.map (·.key)) ∧ RDvs H vs (es.map (·.val)) ∧
          ∀ (q : Option (Nat × Value)), (Instr.findKey kt (a.eval y) es).run P w = .ok q w →
            (execOp a.eval o).run P w = .ok (.value (let r := match q with | some (_, v) => (v, true) | none => (zv, false); if ok then .tuple #[r.1, .bool r.2] else r.1)) w := by
        rcases mp_of_view I hX hv with ⟨he, rfl, rfl⟩ | ⟨r, es, clk, he, hr, h1, h2⟩
        · refine ⟨[], .nil, .nil, fun q hq => ?_⟩
          have hq' : q = none := by
            cases hu' : P.underlying kt with
            | none => simp [keyOk, hu'] at hko
            | some d => simp [Instr.findKey, run_underlying hu', Instr.findNow] at hq; exact hq.symm
          subst hq'
          simp only [execOp, hop, Instr.lookup, Sem.run_bind, run_underlying hu, Result.andThen_ok, he, Sem.run_pure]
          rw [show (10000 : Nat) = 9999 + 1 from rfl, run_checkKey _ hko 9999]
          cases ok <;> simp [hq, hzv]
        · refine ⟨es.toList, h1, h2, fun q hq => ?_⟩
          simp only [execOp, hop, Instr.lookup, Sem.run_bind, run_underlying hu, Result.andThen_ok, he, run_getObj hr (by simp), Sem.run_pure]
          rw [show (10000 : Nat) = 9999 + 1 from rfl, run_checkKey _ hko 9999]
          cases q with
          | none => cases ok <;> simp [hq, hzv]
          | some p => obtain ⟨i, v⟩ := p; cases ok <;> simp [hq]
      obtain ⟨es, h1, h2, hrun⟩ := hes
      split at h
      · simp at h
      · rename_i hat
        simp at h; subst h
        obtain ⟨q, hq, h3, _⟩ := run_findKey (w := w) hYd hf hko h1 h2 hat
        rw [h3 rfl] at hq
        refine Done.val I hd (hrun _ hq) ?_
        cases ok with
        | true => exact .tup (.cons hzr (.cons (.one rfl (.d (.bool _))) .nil))
        | false => exact hzr
      · rename_i j hat
        obtain ⟨q, hq, _, h4⟩ := run_findKey (w := w) hYd hf hko h1 h2 hat
        obtain ⟨yd, v, en, h5, h6, h7, h8, h9, h10⟩ := h4 j rfl
        simp only [h5] at h
        simp at h; subst h
        rw [h9] at hq
        refine Done.val I hd (hrun _ hq) ?_
        cases ok with
        | true => exact .tup (.cons h8.toV (.cons (.one rfl (.d (.bool _))) .nil))
        | false => exact h8.toV
    · simp at h
  · simp at h

end Go.Ev
end

/- Each operation of the model does what the evaluator says: map updates, conversions, append. -/
section
namespace Go.Ev
variable {P : Program} {gl : Nat → Option D}
variable {w0 : World} {O : Nat → Prop} {H0 : Imm} {N : Nat} {K : Nat → Prop} {B0 : Bind} {H : Imm} {B : Bind} {σ : St} {a : Act} {w : World} {o : Oper}

def World.setObj (w : World) (r : Nat) (ob : Obj) : World := { w with heap := w.heap.setIfInBounds r ob }

theorem run_setObj {r : Nat} {ob nw : Obj} (h : w.heap[r]? = some ob) (hc : ∀ c e f, ob ≠ .cells c e f) : (setObj r nw).run P w = .ok () (World.setObj w r nw) := by
  cases ob <;> first | exact absurd rfl (hc _ _ _) | simp [Go.setObj, Sem.run, h, World.setObj]

theorem setObj_same {r : Nat} {ob nw : Obj} (h : w.heap[r]? = some ob) : (World.setObj w r nw).heap[r]? = some nw := by
  have hlt := (Array.getElem?_eq_some_iff.1 h).1
  simp [World.setObj, hlt]

theorem setObj_other {r b : Nat} {nw : Obj} (h : b ≠ r) : (World.setObj w r nw).heap[b]? = w.heap[b]? := by
  simp only [World.setObj]
  rw [Array.getElem?_setIfInBounds_ne (fun e => h e.symm)]

theorem setObj_size {r : Nat} {nw : Obj} : (World.setObj w r nw).heap.size = w.heap.size := by simp [World.setObj]

theorem RDvs_snoc : ∀ {l : List D} {vs : List Value} {x : D} {v : Value}, RDvs H l vs → RDv H x v → RDvs H (l ++ [x]) (vs ++ [v])
  | _, _, x, v, .nil, h => .cons h .nil
  | _, _, x, v, .cons h1 h2, h => .cons h1 (RDvs_snoc h2 h)

theorem RDvs_set : ∀ {l : List D} {vs : List Value} {i : Nat} {x : D} {v : Value}, RDvs H l vs → RDv H x v → RDvs H (l.set i x) (vs.set i v)
  | _, _, i, x, v, .nil, h => by simp; exact .nil
  | _, _, 0, x, v, .cons h1 h2, h => .cons h h2
  | _, _, i + 1, x, v, .cons h1 h2, h => .cons h1 (RDvs_set h2 h)

theorem mapWf_push {es : Array MapEntry} {clk : Nat} {k x : Value} (h : mapWf es clk) : mapWf (es.push { key := k, val := x, born := clk }) (clk + 1) := by
  refine ⟨fun y hy => ?_, ?_⟩
  · simp only [Array.toList_push, List.mem_append, List.mem_singleton] at hy
    rcases hy with hy | rfl
    · have := h.1 y hy; omega
    · exact Nat.lt_succ_self clk
  · simp only [Array.toList_push, List.map_append, List.map_cons, List.map_nil]
    refine List.nodup_append.2 ⟨h.2, by simp, fun a ha b hb => ?_⟩
    simp only [List.mem_singleton] at hb
    subst hb
    obtain ⟨y, hy, rfl⟩ := List.mem_map.1 ha
    have := h.1 y hy; omega

theorem mapWf_modify {es : Array MapEntry} {clk i : Nat} {k x : Value} (h : mapWf es clk) : mapWf (es.modify i fun e => { e with key := k, val := x }) clk := by
  have hb : (es.modify i fun e => { e with key := k, val := x }).toList.map (·.born) = es.toList.map (·.born) := by
    rw [Array.toList_modify]
    apply List.ext_getElem?
    intro j
    simp only [List.getElem?_map, List.getElem?_modify]
    cases es.toList[j]? with
    | none => simp
    | some y => by_cases hj : i = j <;> simp [hj]
  refine ⟨fun y hy => ?_, by rw [hb]; exact h.2⟩
  have : y.born ∈ es.toList.map (·.born) := by rw [← hb]; exact List.mem_map.2 ⟨y, hy, rfl⟩
  obtain ⟨z, hz, hzb⟩ := List.mem_map.1 this
  rw [← hzb]; exact h.1 z hz

theorem mu_ok (G : GlOk gl H0) (I : Inv w0 O H0 N K B0 H B σ a w) (hd : ∀ d, o.dst = some d → d < N) {t kt el : TypeId} {x y z : Operand} {X' Y Z : X} {e : Eff} {call : CallF} {T : Nat}
    (hop : o.op = .mapUpdate t x y z ∨ o.op = .insert t x y z) (hu : P.underlying t = some (.map kt el)) (hko : keyOk P kt = true) (hx : cX x = some X') (hy : cX y = some Y) (hz : cX z = some Z)
    (h : evalOp call T (.mu (tcOf P kt) X' Y Z) (σ.val gl) σ.get = some e) : Done P w0 O H0 N K B0 H σ a w o e := by
  have hX := X_ok G I hx
  have hY := X_ok G I hy
  have hZ := X_ok G I hz
  simp only [evalOp] at h
  split at h
  · rename_i tt hval
    rw [hval] at hX
    split at h
    · rename_i ks vs key yd hg hkey hfz
      split at h
      · rename_i hcond
        simp only [Bool.and_eq_true, Bool.not_eq_true', List.contains_eq_mem, decide_eq_false_iff_not] at hcond
        obtain ⟨hf, hnt⟩ := hcond
        rw [toD_inv hkey] at hY
        -- freeze the value
        obtain ⟨H', I1, hle, hF⟩ := I.freeze [σ.val gl Z]
        have hfr := (RVvs.cons (hZ.mono hle (fun _ _ => rfl)) RVvs.nil).frz _ hF hfz
        have hZd : RDv H' yd (a.eval z) := by cases hfr with | cons h1 _ => exact h1.toD
        have hg1 : (σ.put none { res := .und, wr := fzw σ.get [σ.val gl Z] }).get tt = some (.map ks vs) := by
          have hnd : ((fzw σ.get [σ.val gl Z]).map Prod.fst).Nodup := (frzWr_nodup (addNew_nodup _ _ (by simp))).1
          have hnm : tt ∉ (fzw σ.get [σ.val gl Z]).map Prod.fst := fun hm => by
            have := (frzWr_nodup (get := σ.get) (addNew_nodup (V.ftagsL [σ.val gl Z]) [] (by simp))).2 tt hm
            rw [mem_addNew] at this
            simp only [List.not_mem_nil, false_or, V.ftagsL, List.append_nil] at this
            exact hnt this
          have := (Cells.get_setAll (fzw σ.get [σ.val gl Z]) σ.cells tt hnd).2 hnm
          exact this.trans hg
        have hYd := (hY.mono hle (fun _ _ => rfl)).d_inv (keyFits_flat hf)
        obtain ⟨r, es, clk, hB, hr, hwf, h1, h2⟩ := I1.cells _ _ hg1
        obtain ⟨r', hB', he⟩ := hX.mp_inv
        rw [hB] at hB'; cases hB'
        have hpre : ∀ (q : Option (Nat × Value)) (w' : World), (Instr.findKey kt (a.eval y) es.toList).run P w = .ok q w →
            ((match q with
              | some (i, _) => (do
                let key ← Instr.keyThatStays ((Option.map MapEntry.key es[i]?).getD (a.eval y)) (a.eval y)
                Go.setObj r (.map (es.modify i fun e => { e with key, val := a.eval z }) clk) : Sem Unit)
              | none => Go.setObj r (.map (es.push { key := a.eval y, val := a.eval z, born := clk }) (clk + 1))).run P w = .ok () w') →
            (execOp a.eval o).run P w = .ok .skip w' := by
          intro q w' hq hw'
          have : (Instr.mapUpdate t (a.eval x) (a.eval y) (a.eval z)).run P w = .ok () w' := by
            simp only [Instr.mapUpdate, Sem.run_bind, run_underlying hu, Result.andThen_ok, he, run_getObj hr (by simp)]
            rw [show (10000 : Nat) = 9999 + 1 from rfl, run_checkKey _ hko 9999]
            simp only [Result.andThen_ok, hq]
            cases q with
            | none => exact hw'
            | some p => obtain ⟨i, v⟩ := p; exact hw'
          rcases hop with hop | hop <;> simp [execOp, hop, this]
        split at h
        · simp at h
        · rename_i hat
          simp at h; subst h
          obtain ⟨q, hq, h3, _⟩ := run_findKey (w := w) hYd hf hko h1 h2 hat
          rw [h3 rfl] at hq
          refine ⟨H', B, undef, World.setObj w r (.map (es.push { key := a.eval y, val := a.eval z, born := clk }) (clk + 1)), .inr ⟨hpre none _ hq (run_setObj hr (by simp)), rfl⟩, hle, ?_⟩
          rw [← put_after_freeze]
          refine I1.change (t := tt) (b := r) (c0 := .map ks vs) hd hg1 rfl (by simp) (by rw [hB]; rfl) .skp ⟨r, _, _, hB, setObj_same hr, ?_, ?_, ?_⟩ (fun b' hb' => setObj_other hb') setObj_size rfl rfl rfl
          · exact mapWf_push hwf
          · simp only [Array.toList_push, List.map_append, List.map_cons, List.map_nil]; exact RDvs_snoc h1 (.one (keyFits_flat hf) hYd)
          · simp only [Array.toList_push, List.map_append, List.map_cons, List.map_nil]; exact RDvs_snoc h2 hZd
        · rename_i i hat
          simp at h; subst h
          obtain ⟨q, hq, _, h4⟩ := run_findKey (w := w) hYd hf hko h1 h2 hat
          obtain ⟨yd', v, en, h5, h6, h7, h8, h9, h10⟩ := h4 i rfl
          rw [h9] at hq
          have hei : es[i]? = some en := by rw [← Array.getElem?_toList]; exact h6
          have hstay : (Instr.keyThatStays ((Option.map MapEntry.key es[i]?).getD (a.eval y)) (a.eval y)).run P w = .ok (a.eval y) w := by
            simp [hei, Instr.keyThatStays, h10]
          have hlist : (es.modify i fun e => { e with key := a.eval y, val := a.eval z }).toList = es.toList.modify i (fun e => { e with key := a.eval y, val := a.eval z }) := by simp
          have hkeyset : ((es.modify i fun e => { e with key := a.eval y, val := a.eval z }).toList.map (·.key)) = (es.toList.map (·.key)).set i (a.eval y) := by
            rw [hlist]; apply List.ext_getElem?; intro j
            simp only [List.getElem?_map, List.getElem?_modify, List.getElem?_set]
            by_cases hj : i = j
            · subst hj; simp [h6]; exact (List.getElem?_eq_some_iff.1 h6).1
            · simp [hj]
          have hvalset : ((es.modify i fun e => { e with key := a.eval y, val := a.eval z }).toList.map (·.val)) = (es.toList.map (·.val)).set i (a.eval z) := by
            rw [hlist]; apply List.ext_getElem?; intro j
            simp only [List.getElem?_map, List.getElem?_modify, List.getElem?_set]
            by_cases hj : i = j
            · subst hj; simp [h6]; exact (List.getElem?_eq_some_iff.1 h6).1
            · simp [hj]
          refine ⟨H', B, undef, World.setObj w r (.map (es.modify i fun e => { e with key := a.eval y, val := a.eval z }) clk), .inr ⟨hpre (some (i, v)) _ hq ?_, rfl⟩, hle, ?_⟩
          · simp only [Sem.run_bind, hstay, Result.andThen_ok]
            exact run_setObj hr (by simp)
          rw [← put_after_freeze]
          refine I1.change (t := tt) (b := r) (c0 := .map ks vs) hd hg1 rfl (by simp) (by rw [hB]; rfl) .skp ⟨r, _, _, hB, setObj_same hr, ?_, ?_, ?_⟩ (fun b' hb' => setObj_other hb') setObj_size rfl rfl rfl
          · exact mapWf_modify hwf
          · rw [hkeyset]; exact RDvs_set h1 (.one (keyFits_flat hf) hYd)
          · rw [hvalset]; exact RDvs_set h2 hZd
      · simp at h
    · simp at h
  · simp at h

/-! ## A range over a string -/
theorem nxt_ok (G : GlOk gl H0) (I : Inv w0 O H0 N K B0 H B σ a w) (hd : ∀ d, o.dst = some d → d < N) {x : Operand} {X' : X} {e : Eff} {call : CallF} {T : Nat}
    (hop : o.op = .next x true) (hx : cX x = some X')
    (h : evalOp call T (.nxtS X') (σ.val gl) σ.get = some e) : Done P w0 O H0 N K B0 H σ a w o e := by
  have hX := X_ok G I hx
  simp only [evalOp, okEff] at h
  split at h
  · rename_i tt p hval
    rw [hval] at hX
    split at h
    · rename_i s pos hg
      obtain ⟨b, hB, hobj⟩ := I.cells _ _ hg
      obtain ⟨b', hB', he⟩ := hX.ptr_inv
      rw [hB] at hB'; cases hB'
      have hsz : (ByteArray.mk s.toArray).size = s.length := by simp [ByteArray.size]
      split at h
      · rename_i hlt
        simp at h; subst h
        refine ⟨H, B, .tuple #[.bool true, goInt pos, .int .i32 (Utf8.decode ⟨s.toArray⟩ pos).1], World.setObj w b (.stringIter ⟨s.toArray⟩ (pos + (Utf8.decode ⟨s.toArray⟩ pos).2)), .inl ?_, Imm.le_refl H, ?_⟩
        · simp [execOp, hop, Instr.next, he, run_getObj hobj (by simp), hsz, hlt, run_setObj hobj (by simp)]
        · exact I.change (t := tt) (b := b) (c0 := .iter s pos) hd hg rfl (by simp) (by rw [hB]; rfl) (.tup (.cons (.one rfl (.d (.bool _))) (.cons (.one rfl (.d (.int _ _))) (.cons (.one rfl (.d (.int _ _))) .nil)))) ⟨b, hB, setObj_same hobj⟩ (fun b' hb' => setObj_other hb') setObj_size rfl rfl rfl
      · rename_i hlt
        simp at h; subst h
        exact Done.val I hd (v := .tuple #[.bool false]) (by simp [execOp, hop, Instr.next, he, run_getObj hobj (by simp), hsz, hlt]) (.tup (.cons (.one rfl (.d (.bool _))) .nil))
    · simp at h
  · simp at h

end Go.Ev
end

/- Each operation of the model does what the evaluator says: append, conversions, min and max. -/
section
namespace Go.Ev
variable {P : Program} {gl : Nat → Option D}
variable {w0 : World} {O : Nat → Prop} {H0 : Imm} {N : Nat} {K : Nat → Prop} {B0 : Bind} {H : Imm} {B : Bind} {σ : St} {a : Act} {w : World} {o : Oper}

theorem cell_heap {w w' : World} (h : w'.heap = w.heap) (ad : Addr) : w'.cell? ad = w.cell? ad := by unfold World.cell?; rw [h]

theorem load_row {w w' : World} (hh : w'.heap = w.heap) {g off : Nat} {c : Array Value} {e : TypeId} {fr : Nat × Nat} {pre mid post : List Value}
    (hg : w.heap[g]? = some (.cells c e fr)) (hc : c.toList = pre ++ (mid ++ post)) (hp : pre.length = off) : (loadCells ⟨g, off, none⟩ mid.length).run P w' = .ok mid.toArray w' :=
  run_loadCells_list (P := P) w' ⟨g, off, none⟩ mid (fun j v hv => by rw [cell_heap hh]; exact cell_at hg hc hp j v hv)

theorem ofBytes_cells : ∀ (s : List UInt8), RDs H (ofBytes s) (s.map fun b => Value.int .u8 b.toNat)
  | [] => .nil
  | b :: s => .cons (cs := [_]) (.int _ _) (ofBytes_cells s)

theorem src_ok (I : Inv w0 O H0 N K B0 H B σ a w) {x : V} {v : Value} {sz : Nat} {m : List D} (hX : RVv H B x v) (h : srcOf σ.get sz x = some m) (h0 : 0 < sz) :
    ∃ mc, RDs H m mc ∧ (∀ y ∈ m, y.size = sz) ∧ (∀ w' : World, w'.heap = w.heap → (Builtin.lenOf v).run P w' = .ok m.length w' ∧ (Builtin.firstCells sz m.length v).run P w' = .ok mc.toArray w') := by
  unfold srcOf at h
  split at h
  · rename_i s
    split at h
    · rename_i hs
      subst hs
      simp at h; subst h
      rw [hX.str_inv]
      refine ⟨_, ofBytes_cells s, ?_, fun w' _ => ⟨?_, ?_⟩⟩
      · intro y hy; obtain ⟨b, _, rfl⟩ := List.mem_map.1 hy; rfl
      · simp only [Builtin.lenOf, Sem.run_pure, ofBytes, List.length_map]; rfl
      · simp only [Builtin.firstCells, Sem.run_pure, ofBytes, List.length_map]
        have : ((⟨⟨s⟩⟩ : ByteArray).extract 0 s.length).data = ⟨s⟩ := by
          apply Array.ext'
          rw [Lib.extract_data]; simp
        rw [this]; simp
    · simp at h
  · split at h
    · rename_i tt sz' l hv
      obtain ⟨rfl, hg⟩ := own_of_view hv
      split at h
      · rename_i hs; subst hs
        simp at h; subst h
        obtain ⟨ad, n, cap, hB, rfl⟩ := hX.own_inv
        rcases I.cells _ _ hg with ⟨rfl, h1⟩ | ⟨b, cap', c, cs, post, h1, h2, h3, h4, h5, h6, h7⟩
        · rw [hB] at h1; cases h1
          exact ⟨[], .nil, by simp, fun w' _ => ⟨rfl, rfl⟩⟩
        · rw [hB] at h1; cases h1
          refine ⟨cs, h4, h5, fun w' hh => ⟨rfl, ?_⟩⟩
          have := load_row (P := P) hh h2 (pre := []) (mid := cs) (post := post) h3 rfl
          rw [h4.size, sizes_all h5] at this
          exact this
      · simp at h
    · rename_i l hv
      have hRD := frz_of_view I hX hv
      split at h
      · rename_i hs
        simp at h; subst h
        cases hRD with
        | sl0 ad cap =>
          refine ⟨[], .nil, by simp, fun w' _ => ⟨rfl, ?_⟩⟩
          cases ad with
          | none => rfl
          | some ad => simp [Builtin.firstCells, loadCells, loadCellsFrom]
        | sl h1 h2 h3 h4 h5 h6 h7 =>
          rename_i c e fr pre cs post ad cap sz'
          have hsz : ∀ y ∈ l, y.size = sz := by
            cases l with
            | nil => simp
            | cons y l =>
              simp only [slotHead, beq_iff_eq] at hs
              intro z hz
              rw [h6 z hz, ← h6 y (by simp)]; exact hs
          refine ⟨cs, h5, hsz, fun w' hh => ⟨rfl, ?_⟩⟩
          obtain ⟨g, off, sp⟩ := ad
          cases h2
          have := load_row (P := P) hh (I.imm _ _ h1) h3 h4
          rw [h5.size, sizes_all hsz] at this
          exact this
      · simp at h
    · rename_i hv
      obtain rfl := nil_of_view hv
      simp at h; subst h
      rw [hX.nils_inv]
      exact ⟨[], .nil, by simp, fun w' _ => ⟨rfl, rfl⟩⟩
    · simp at h

theorem growBy_le (n : Nat) : ∀ (r c : Nat), 256 ≤ c → c ≤ 2 * n → Builtin.growBy n r c ≤ 2 * n
  | 0, c, _, h => h
  | r + 1, c, h1, h2 => by
    simp only [Builtin.growBy]
    split
    · exact h2
    · exact growBy_le n r _ (by omega) (by omega)

theorem nextslicecap_le {need cap : Nat} (h : cap < need) : Builtin.nextslicecap need cap ≤ 2 * need := by
  unfold Builtin.nextslicecap
  split
  · omega
  · split
    · omega
    · exact growBy_le need 4 cap (by omega) (by omega)

theorem zeroCells_size (z : Array Value) (n : Nat) : (Builtin.zeroCells z n).size = n * z.size := by simp [Builtin.zeroCells]

/-- The model's append: into the room that is there, or into a new row of whatever capacity the tape says. -/
theorem run_append {t u el : TypeId} {sz by' : Nat} {z : V} {d : TypeDesc} {base : Option Addr} {n cap : Nat} {xv : Value} {m : List D} {mc old : List Value} {ty : TypeId}
    (hu : P.underlying t = some (.slice el)) (hu' : P.underlying u = some d) (hd : ∀ k, d ≠ .int k) (hsz : szOf P el = some sz) (hby : byOf P el = some by') (hz : zeroOf P el = some z) (hzs : z.size = sz)
    (hlen : n + m.length ≤ 140737488355328) (hbytes : (n + m.length) * by' ≤ 140737488355328)
    (hsrc : ∀ w' : World, w'.heap = w.heap → (Builtin.lenOf xv).run P w' = .ok m.length w' ∧ (Builtin.firstCells sz m.length xv).run P w' = .ok mc.toArray w')
    (hold : ∀ w' : World, w'.heap = w.heap → (Builtin.firstCells sz n (.slice base n cap)).run P w' = .ok old.toArray w') :
    (n + m.length ≤ cap → ∀ w', ((match base with | some a => storeCells (a.add (n * sz)) mc | none => pure () : Sem Unit).run P w = .ok () w') →
      (Builtin.append_ #[t, u] ty #[.slice base n cap, xv]).run P w = .ok (.slice base (n + m.length) cap) w') ∧
    (¬ n + m.length ≤ cap → ∃ newCap rest w', (Builtin.append_ #[t, u] ty #[.slice base n cap, xv]).run P w = .ok (.slice (some ⟨w.heap.size, 0, none⟩) (n + m.length) newCap) w' ∧
      n + m.length ≤ newCap ∧ rest.length = (newCap - (n + m.length)) * sz ∧ w'.heap = (w.alloc (.cells (old ++ mc ++ rest).toArray el)).heap ∧ w'.os = w.os ∧ w'.tape = w.tape ∧ w'.output = w.output) := by
  obtain ⟨zv, hzv, _, hzc⟩ := zeroOf_ok (H := fun _ => none) (B := fun _ => undef) hz
  have hzvs : zv.cells.size = sz := by rw [← Array.length_toList, hzc.size, hzs]
  obtain ⟨i, hi, hib⟩ : ∃ i, P.info? el = some i ∧ i.bytes = by' := by
    unfold byOf at hby
    cases hi : P.info? el with
    | none => simp [hi] at hby
    | some i => exact ⟨i, rfl, by simpa [hi] using hby⟩
  have hzeros : (match d with | .int _ => true | _ => false) = false := by cases d <;> first | rfl | exact absurd rfl (hd _)
  have hs0 := hsrc w rfl
  constructor
  · intro hroom w' hst
    simp only [Builtin.append_, List.getElem?_toArray, List.getElem?_cons_zero, List.getElem?_cons_succ, Sem.run_bind, run_underlying hu, run_underlying hu', run_szOf hsz, Result.andThen_ok, Sem.run_pure, hzeros, Bool.false_eq_true, if_false, hs0.1]
    rw [if_pos hroom]
    simp only [Bool.not_false, if_true, Sem.run_bind, hs0.2, Result.andThen_ok]
    cases base with
    | none =>
      simp at hst; subst hst; simp
    | some ad =>
      simp only [Sem.run_bind]
      simp only at hst
      rw [hst]
      simp
  · intro hroom
    have hnext := nextslicecap_le (need := n + m.length) (cap := cap) (by omega)
    let q : Question := .appendCap (n + m.length) cap el
    let newCap := q.cut (w.tape w.drawn q)
    have hnc : n + m.length ≤ newCap := by simp only [newCap, q, Question.cut]; omega
    refine ⟨newCap, (Builtin.zeroCells zv.cells (newCap - (n + m.length))).toList, w.drew.alloc (.cells (old ++ mc ++ (Builtin.zeroCells zv.cells (newCap - (n + m.length))).toList).toArray el), ?_, hnc, ?_, rfl, rfl, rfl, rfl⟩
    · have h1 : ¬ (((n + m.length : Nat) : Int) > IntKind.i64.max ∧ (false = true ∨ i.bytes = 0)) := by
        have : IntKind.i64.max = 9223372036854775807 := by decide
        omega
      have h2 : ¬ (Builtin.nextslicecap (n + m.length) cap * i.bytes > 2 ^ 48) := by
        have := Nat.mul_le_mul_right i.bytes hnext
        rw [hib] at this ⊢
        have h3 : 2 * (n + m.length) * by' = 2 * ((n + m.length) * by') := by rw [Nat.mul_assoc]
        omega
      have hs1 := hsrc w.drew rfl
      have ho1 := hold w.drew rfl
      simp only [Builtin.append_, List.getElem?_toArray, List.getElem?_cons_zero, List.getElem?_cons_succ, Sem.run_bind, run_underlying hu, run_underlying hu', run_szOf hsz, Result.andThen_ok, Sem.run_pure, hzeros, Bool.false_eq_true, if_false, hs0.1]
      rw [if_neg hroom]
      have hch : (choose (.appendCap (n + m.length) cap el)).run P w = .ok newCap w.drew := by
        simp only [choose, Sem.run, Question.forced]; rfl
      simp only [Sem.run_bind, run_info hi, Result.andThen_ok]
      rw [if_neg (by simpa using h1)]
      simp only [Sem.run_bind, run_info hi, Result.andThen_ok]
      rw [if_neg h2]
      simp only [Sem.run_bind, hch, run_info hi, Result.andThen_ok, run_askRoom, ho1, Bool.not_false, if_true, hs1.2, hzv, newRow, Sem.run_pure]
      have hcells : old.toArray ++ mc.toArray ++ Builtin.zeroCells zv.cells (newCap - (n + m.length)) = (old ++ mc ++ (Builtin.zeroCells zv.cells (newCap - (n + m.length))).toList).toArray := by
        apply Array.ext'; simp
      rw [hcells]
      simp [run_newObj]
    · simp [zeroCells_size, hzvs]

end Go.Ev
end

/- Each operation of the model does what the evaluator says: append to own rows, conversions, min and max. -/
section
namespace Go.Ev
variable {P : Program} {gl : Nat → Option D}
variable {w0 : World} {O : Nat → Prop} {H0 : Imm} {N : Nat} {K : Nat → Prop} {B0 : Bind} {H : Imm} {B : Bind} {σ : St} {a : Act} {w : World} {o : Oper}

theorem RDs_join : ∀ {l1 l2 : List D} {c1 c2 : List Value}, RDs H l1 c1 → RDs H l2 c2 → RDs H (l1 ++ l2) (c1 ++ c2)
  | _, _, _, _, .nil, h => h
  | _, _, _, _, .cons h1 h2, h => by
    have := RDs.cons h1 (RDs_join h2 h)
    simpa using this

theorem app_ok (G : GlOk gl H0) (I : Inv w0 O H0 N K B0 H B σ a w) {T : Nat} (hT : 1000 ≤ T) (hd : ∀ d, o.dst = some d → d < N) {t u el : TypeId} {x y : Operand} {X' Y : X} {ts : Array TypeId} {args : Array Operand} {d : TypeDesc}
    {sz by' : Nat} {z : V} {e : Eff} {call : CallF}
    (hop : o.op = .call { callee := .builtin .append, args := args, argTypes := ts }) (hts : ts.toList = [t, u]) (hargs : args.toList = [x, y])
    (hu : P.underlying t = some (.slice el)) (hu' : P.underlying u = some d) (hdk : appendable d = true)
    (hsz : szOf P el = some sz) (hby : byOf P el = some by') (hz : zeroOf P el = some z) (hzs : z.size = sz) (h0 : 0 < sz) (hx : cX x = some X') (hy : cX y = some Y)
    (h : evalOp call T (.app el sz by' X' Y) (σ.val gl) σ.get = some e) : Done P w0 O H0 N K B0 H σ a w o e := by
  have hX := X_ok G I hx
  have hY := X_ok G I hy
  obtain rfl := arr2 hts
  obtain rfl := arr2 hargs
  have hdn : ∀ k, d ≠ .int k := by intro k; cases d <;> simp [appendable] at hdk ⊢
  have hexec : ∀ {v' : Value} {w' : World}, (Builtin.append_ #[t, u] o.type #[a.eval x, a.eval y]).run P w = .ok v' w' → (execOp a.eval o).run P w = .ok (.value v') w' := by
    intro v' w' hr
    rw [run_builtin hop]
    simp [builtin, hr]
  simp only [evalOp] at h
  split at h
  · simp at h
  · rename_i m hm
    obtain ⟨mc, hmc, hms, hsrc⟩ := src_ok (P := P) I hY hm h0
    have hmcl : mc.length = m.length * sz := by rw [hmc.size, sizes_all hms]
    split at h
    · -- onto nil
      rename_i hv
      have hval := nil_of_view hv
      rw [hval] at hX
      split at h
      · rename_i hb
        simp at h; subst h
        obtain ⟨hr1, hr2⟩ := run_append (w := w) (ty := o.type) (base := none) (n := 0) (cap := 0) (old := []) hu hu' hdn hsz hby hz hzs (by omega) (by simpa using hb.2) hsrc (fun w' _ => rfl)
        rw [hX.nils_inv] at hexec
        by_cases hroom : 0 + m.length ≤ 0
        · have hm0 : m = [] := List.length_eq_zero_iff.1 (by omega)
          subst hm0
          refine ⟨H, B.set T (.slice none 0 0), .slice none 0 0, w, .inl (hexec (hr1 hroom w rfl)), Imm.le_refl H, ?_⟩
          exact I.nilrow hT hd
        · obtain ⟨newCap, rest, w', hr, hcap, hrest, hheap, hos, htape, hout⟩ := hr2 hroom
          refine ⟨H, B.set T (.slice (some ⟨w.heap.size, 0, none⟩) (0 + m.length) newCap), _, w', .inl (hexec hr), Imm.le_refl H, ?_⟩
          refine I.alloc (hdr := .slice (some ⟨w.heap.size, 0, none⟩) (0 + m.length) newCap) hT hd rfl (.one rfl (.own (B.set_same _ _)))
            (.inr ⟨w.heap.size, newCap, _, mc, rest, ?_, by rw [hheap]; exact heap_alloc_new w _, by simp, hmc, hms, by omega, ?_⟩) hheap hos htape hout
          · rw [B.set_same]; simp
          · simp only [List.nil_append, List.size_toArray, List.length_append, hmcl, hrest]
            rw [← Nat.add_mul]; congr 1; omega
      · simp at h
    · -- onto a row of the call's own
      rename_i tt ety sz' l hv
      obtain ⟨hval, hg⟩ := own_of_view hv
      rw [hval] at hX
      split at h
      · rename_i hb
        obtain ⟨rfl, rfl, hb1, hb2⟩ := hb
        simp at h; subst h
        obtain ⟨ad, n, cap, hB, he⟩ := hX.own_inv
        rw [he] at hexec
        rcases I.cells _ _ hg with ⟨rfl, h1⟩ | ⟨b, cap', c, cs, post, h1, h2, h3, h4, h5, h6, h7⟩
        · -- its header is nil
          rw [hB] at h1; cases h1
          obtain ⟨hr1, hr2⟩ := run_append (w := w) (ty := o.type) (base := none) (n := 0) (cap := 0) (old := []) hu hu' hdn hsz hby hz hzs (by simpa using hb1) (by simpa using hb2) hsrc (fun w' _ => rfl)
          by_cases hroom : 0 + m.length ≤ 0
          · have hm0 : m = [] := List.length_eq_zero_iff.1 (by omega)
            subst hm0
            refine ⟨H, B.set tt (.slice none 0 0), .slice none 0 0, w, .inl (hexec (hr1 hroom w rfl)), Imm.le_refl H, ?_⟩
            exact I.rehead hd hg rfl (by simp) (fun b hb => by simp [blkOf] at hb) (.one rfl (.own (B.set_same _ _))) (.inl ⟨by simp, B.set_same _ _⟩) (fun _ _ _ => rfl) (Nat.le_refl _) rfl rfl rfl
          · obtain ⟨newCap, rest, w', hr, hcap, hrest, hheap, hos, htape, hout⟩ := hr2 hroom
            have hsz' : w'.heap.size = w.heap.size + 1 := by rw [hheap]; exact Array.size_push ..
            refine ⟨H, B.set tt (.slice (some ⟨w.heap.size, 0, none⟩) (0 + m.length) newCap), _, w', .inl (hexec hr), Imm.le_refl H, ?_⟩
            refine I.rehead hd hg rfl (by simp) (fun b hb => .inl ?_) (.one rfl (.own (B.set_same _ _)))
              (.inr ⟨w.heap.size, newCap, _, mc, rest, ?_, by rw [hheap]; exact heap_alloc_new w _, by simp, by simpa using hmc, by simpa using hms, by simp; omega, ?_⟩) (fun b' hb' _ => by rw [hheap]; exact heap_alloc_old w _ hb') (by omega) hos htape hout
            · simp [blkOf] at hb; omega
            · rw [B.set_same]; simp
            · simp only [List.nil_append, List.size_toArray, List.length_append, hmcl, hrest]
              rw [← Nat.add_mul]; congr 1; omega
        · rw [hB] at h1; cases h1
          have hcsl : cs.length = l.length * sz' := by rw [h4.size, sizes_all h5]
          have hold : ∀ w' : World, w'.heap = w.heap → (Builtin.firstCells sz' l.length (.slice (some ⟨b, 0, none⟩) l.length cap)).run P w' = .ok cs.toArray w' := by
            intro w' hh
            have := load_row (P := P) hh h2 (pre := []) (mid := cs) (post := post) h3 rfl
            rw [hcsl] at this
            exact this
          obtain ⟨hr1, hr2⟩ := run_append (w := w) (ty := o.type) (base := some ⟨b, 0, none⟩) (n := l.length) (cap := cap) (old := cs) hu hu' hdn hsz hby hz hzs hb1 hb2 hsrc hold
          by_cases hroom : l.length + m.length ≤ cap
          · -- into the room
            have hcsz : c.size = cs.length + post.length := by rw [← Array.length_toList, h3]; simp
            have hmul : (l.length + m.length) * sz' ≤ cap * sz' := Nat.mul_le_mul_right sz' hroom
            have hpl : m.length * sz' ≤ post.length := by rw [Nat.add_mul] at hmul; omega
            have hst := run_storeCells_at P b (l.length * sz') _ mc 0 c w h2 (by omega) hmc.ones
            have e1 : c.toList.take (l.length * sz' + 0) = cs := by rw [h3, Nat.add_zero, ← hcsl]; simp
            have e2 : c.toList.drop (l.length * sz' + 0 + mc.length) = post.drop mc.length := by
              rw [h3, Nat.add_zero, ← hcsl, List.drop_append]
              have : cs.drop (cs.length + mc.length) = [] := List.drop_eq_nil_of_le (by omega)
              rw [this, List.nil_append]; congr 1; omega
            rw [e1, e2] at hst
            have hadd : (⟨b, 0, none⟩ : Addr).add (l.length * sz') = ⟨b, l.length * sz', none⟩ := by rw [addr_add, Nat.zero_add]
            have hr := hr1 hroom (w.setRow b (cs ++ mc ++ post.drop mc.length).toArray) (by simp only [hadd]; exact hst)
            refine ⟨H, B.set tt (.slice (some ⟨b, 0, none⟩) (l.length + m.length) cap), _, _, .inl (hexec hr), Imm.le_refl H, ?_⟩
            refine I.rehead hd hg rfl (by simp) (fun b' hb' => .inr ?_) (.one rfl (.own (B.set_same _ _)))
              (.inr ⟨b, cap, _, cs ++ mc, post.drop mc.length, ?_, setRow_heap _ _ _ _ _ _ h2, rfl, RDs_join h4 hmc, ?_, by simpa using hroom, ?_⟩) (fun b' _ hb' => setRow_other _ _ _ (fun e => hb' (by rw [hB, e]; rfl))) (by rw [setRow_size]; exact Nat.le_refl _) rfl rfl rfl
            · rw [hB]; simpa [blkOf] using hb'
            · rw [B.set_same]; simp
            · intro y hy
              rcases List.mem_append.1 hy with hy | hy
              · exact h5 y hy
              · exact hms y hy
            · simp only [List.size_toArray, List.length_append, List.length_drop]
              omega
          · -- into a new row
            obtain ⟨newCap, rest, w', hr, hcap, hrest, hheap, hos, htape, hout⟩ := hr2 hroom
            have hsz' : w'.heap.size = w.heap.size + 1 := by rw [hheap]; exact Array.size_push ..
            refine ⟨H, B.set tt (.slice (some ⟨w.heap.size, 0, none⟩) (l.length + m.length) newCap), _, w', .inl (hexec hr), Imm.le_refl H, ?_⟩
            refine I.rehead hd hg rfl (by simp) (fun b' hb' => .inl ?_) (.one rfl (.own (B.set_same _ _)))
              (.inr ⟨w.heap.size, newCap, _, cs ++ mc, rest, ?_, by rw [hheap]; exact heap_alloc_new w _, rfl, RDs_join h4 hmc, ?_, by simpa using hcap, ?_⟩) (fun b' hb' _ => by rw [hheap]; exact heap_alloc_old w _ hb') (by omega) hos htape hout
            · simp [blkOf] at hb'; omega
            · rw [B.set_same]; simp
            · intro y hy
              rcases List.mem_append.1 hy with hy | hy
              · exact h5 y hy
              · exact hms y hy
            · simp only [List.size_toArray, List.length_append, hcsl, hmcl, hrest]
              rw [← Nat.add_mul, ← Nat.add_mul]; congr 1; omega
      · simp at h
    · simp at h

theorem nilrow_ok (I : Inv w0 O H0 N K B0 H B σ a w) {sz T : Nat} {el : TypeId} (hT : 1000 ≤ T) (hd : ∀ d, o.dst = some d → d < N) (hop : o.op = .assign (.const (.slice none 0 0))) :
    Done P w0 O H0 N K B0 H σ a w o { res := .own T, wr := [(T, .row el sz [])], kill := [T] } :=
  ⟨H, _, .slice none 0 0, w, .inl (by simp [execOp, hop, Act.eval]), Imm.le_refl H, I.nilrow hT hd⟩

theorem lenA_ok (I : Inv w0 O H0 N K B0 H B σ a w) (hd : ∀ d, o.dst = some d → d < N) {t el : TypeId} {n : Nat} {x : Operand} {ts : Array TypeId} {args : Array Operand}
    (hop : o.op = .call { callee := .builtin .len, args := args, argTypes := ts }) (hts : ts.toList = [t]) (hargs : args.toList = [x]) (hu : P.underlying t = some (.array n el)) :
    Done P w0 O H0 N K B0 H σ a w o { res := .d (.int .i64 n) } := by
  obtain rfl := arr1 hts
  obtain rfl := arr1 hargs
  refine Done.val I hd (v := .int .i64 n) ?_ (.one rfl (.d (.int _ _)))
  rw [run_builtin hop]
  simp [builtin, Builtin.len_, run_underlying hu, goInt]

theorem mxn_ok (G : GlOk gl H0) (I : Inv w0 O H0 N K B0 H B σ a w) (hd : ∀ d, o.dst = some d → d < N) {x y : Operand} {X' Y : X} {ts : Array TypeId} {args : Array Operand} {mx : Bool} {e : Eff} {call : CallF} {T : Nat}
    (hop : o.op = .call { callee := .builtin (if mx then .max else .min), args := args, argTypes := ts }) (hargs : args.toList = [x, y]) (hx : cX x = some X') (hy : cX y = some Y)
    (h : evalOp call T (.mxn mx [X', Y]) (σ.val gl) σ.get = some e) : Done P w0 O H0 N K B0 H σ a w o e := by
  have hX := X_ok G I hx
  have hY := X_ok G I hy
  obtain rfl := arr2 hargs
  simp only [evalOp, okEff] at h
  split at h
  · rename_i k n k' n' hl
    split at h
    · rename_i hk; subst hk
      simp at h; subst h
      simp only [List.map_cons, List.map_nil, toDL] at hl
      have hx' : σ.val gl X' = .d (.int k n) ∧ σ.val gl Y = .d (.int k n') := by
        cases h1 : toD (σ.val gl X') with
        | none => simp [h1] at hl
        | some p =>
          cases h2 : toD (σ.val gl Y) with
          | none => simp [h1, h2] at hl
          | some q =>
            simp [h1, h2] at hl
            obtain ⟨rfl, rfl⟩ := hl
            exact ⟨toD_inv h1, toD_inv h2⟩
      rw [hx'.1] at hX; rw [hx'.2] at hY
      refine Done.val I hd (v := .int k (if mx then (if n' > n then n' else n) else (if n' < n then n' else n))) ?_ (.one rfl (.d (.int _ _)))
      rw [run_builtin hop]
      cases mx <;> simp [builtin, Builtin.max_, Builtin.min_, Builtin.max2, Builtin.min2, hX.int_inv, hY.int_inv]
    · simp at h
  · simp at h

/-! ## Conversions between strings and bytes -/
theorem cnvSB_ok (G : GlOk gl H0) (I : Inv w0 O H0 N K B0 H B σ a w) (hd : ∀ d, o.dst = some d → d < N) {s d el : TypeId} {x : Operand} {X' : X} {e : Eff} {call : CallF} {T : Nat}
    (hop : o.op = .convert s d x) (hs : P.underlying s = some .string) (hdd : P.underlying d = some (.slice el)) (hel : P.underlying el = some (.int .u8)) (hx : cX x = some X')
    (h : evalOp call T (.cnvSB X') (σ.val gl) σ.get = some e) : Done P w0 O H0 N K B0 H σ a w o e := by
  have hX := X_ok G I hx
  simp only [evalOp, okEff] at h
  split at h
  · rename_i bs hval
    rw [hval] at hX
    simp at h; subst h
    have hrun := Lib.run_convert_string_bytes w s d el ⟨⟨bs⟩⟩ hs hdd hel
    let H' : Imm := fun b => if b = w.heap.size then (Lib.bytesWorld w el ⟨⟨bs⟩⟩).heap[w.heap.size]? else H b
    have hlt : ∀ b o', H b = some o' → b < w.heap.size := fun b o' h => (Array.getElem?_eq_some_iff.1 (I.imm b o' h)).1
    have hle : H.le H' := fun b o' h => by
      have := hlt b o' h
      simp only [H']; rw [if_neg (by omega)]; exact h
    have hsz : (⟨⟨bs⟩⟩ : ByteArray).size = (ofBytes bs).length := by simp [ofBytes]; rfl
    refine ⟨H', B, .slice (some ⟨w.heap.size, 0, none⟩) (⟨⟨bs⟩⟩ : ByteArray).size (grownCap w (⟨⟨bs⟩⟩ : ByteArray).size 0 el), Lib.bytesWorld w el ⟨⟨bs⟩⟩, .inl (by simp [execOp, hop, hX.str_inv, hrun]), hle, ?_⟩
    refine I.put hd hle (fun _ _ => rfl) (.one rfl (.d ?_)) ?_ (by simp) (by simp) (fun b hb _ => Lib.bytesWorld_at_old w el _ b hb) ?_ (by simp) (by simp) (fun _ _ => ⟨rfl, by simp⟩) (by rw [Lib.bytesWorld_size]; omega) rfl rfl rfl
    · rw [hsz]
      refine .sl (a := ⟨w.heap.size, 0, none⟩) (pre := []) (cs := bs.map fun b => .int .u8 b.toNat) (post := (Array.replicate (grownCap w (⟨⟨bs⟩⟩ : ByteArray).size 0 el - (⟨⟨bs⟩⟩ : ByteArray).size) (Value.int .u8 0)).toList) (sz := 1) (by simp only [H', if_true]; exact Lib.bytesWorld_at_new w el _) rfl ?_ rfl (ofBytes_cells bs) ?_ ?_
      · simp [Lib.bytesCells]
      · intro y hy; obtain ⟨b, _, rfl⟩ := List.mem_map.1 hy; rfl
      · rw [← hsz]
        simp only [grownCap, Question.cut]; omega
    · intro b o' hb
      simp only [H'] at hb
      split at hb
      · rename_i hbe; subst hbe; exact hb
      · rw [Lib.bytesWorld_at_old w el _ b (hlt b o' hb)]; exact I.imm b o' hb
    · intro b o' hb
      simp only [H'] at hb
      split at hb
      · rename_i hbe; subst hbe; exact .inr (.inr (Nat.le_refl _))
      · exact .inl hb
  · simp at h

theorem bytesOf_rd : ∀ {m : List D} {s : List UInt8} {mc : List Value}, bytesOf m = some s → RDs H m mc → ∃ ns : List Int, mc = ns.map (Value.int .u8) ∧ ns.map (fun n => UInt8.ofNat n.toNat) = s
  | [], s, mc, h, hr => by simp [bytesOf] at h; subst h; cases hr; exact ⟨[], rfl, rfl⟩
  | x :: m, s, mc, h, hR => by
    unfold bytesOf at h
    split at h
    · rename_i h0; cases h0
    · rename_i n l' h0
      cases h0
      split at h
      · rename_i r hr
        split at h
        · simp only [Option.some.injEq] at h; subst h
          cases hR with
          | cons h1 h2 =>
            obtain ⟨ns, rfl, h3⟩ := bytesOf_rd hr h2
            cases h1
            exact ⟨n :: ns, rfl, by simp [h3]⟩
        · simp at h
      · simp at h
    · simp at h

theorem foldl_push : ∀ (ns : List Int) (s : List UInt8), ns.foldl (fun (r : ByteArray) n => r.push (UInt8.ofNat n.toNat)) ⟨⟨s⟩⟩ = ⟨⟨s ++ ns.map (fun n => UInt8.ofNat n.toNat)⟩⟩
  | [], s => by simp
  | n :: ns, s => by
    simp only [List.foldl_cons, List.map_cons]
    have : (⟨⟨s⟩⟩ : ByteArray).push (UInt8.ofNat n.toNat) = ⟨⟨s ++ [UInt8.ofNat n.toNat]⟩⟩ := by simp [ByteArray.push]
    rw [this, foldl_push ns]; simp

theorem cnvBS_ok (G : GlOk gl H0) (I : Inv w0 O H0 N K B0 H B σ a w) (hd : ∀ d, o.dst = some d → d < N) {s d el : TypeId} {x : Operand} {X' : X} {e : Eff} {call : CallF} {T : Nat}
    (hop : o.op = .convert s d x) (hs : P.underlying s = some (.slice el)) (hdd : P.underlying d = some .string) (hel : P.underlying el = some (.int .u8)) (hx : cX x = some X')
    (h : evalOp call T (.cnvBS X') (σ.val gl) σ.get = some e) : Done P w0 O H0 N K B0 H σ a w o e := by
  have hX := X_ok G I hx
  simp only [evalOp, okEff] at h
  cases hm : srcB σ.get (σ.val gl X') with
  | none => rw [hm] at h; simp at h
  | some m =>
    rw [hm] at h
    cases hb : bytesOf m with
    | none => simp [hb] at h
    | some bs =>
      simp [hb] at h; subst h
      have hsrc : srcOf σ.get 1 (σ.val gl X') = some m := by
        unfold srcB at hm
        split at hm
        · simp at hm
        · exact hm
      have hns : ∀ s, σ.val gl X' ≠ .d (.str s) := fun s hs => by rw [hs] at hm; simp [srcB] at hm
      obtain ⟨mc, h1, h2, h3⟩ := src_ok (P := P) I hX hsrc (by decide)
      obtain ⟨h4, h5⟩ := h3 w rfl
      obtain ⟨ns, rfl, h6⟩ := bytesOf_rd hb h1
      have hlen : ns.length = m.length := by have := h1.size; rw [sizes_all h2] at this; simpa using this
      refine Done.val I hd (v := .string ⟨⟨bs⟩⟩) ?_ (.one rfl (.d (.str bs)))
      have key : ∃ ad n c, a.eval x = .slice ad n c := by
        generalize a.eval x = xv at h4 hX
        cases xv <;> first | exact ⟨_, _, _, rfl⟩ | (exfalso; simp [Builtin.lenOf] at h4; done) | skip
        rename_i s'
        exfalso
        unfold srcOf at hsrc
        split at hsrc
        · exact hns _ ‹_›
        · generalize hv : σ.val gl X' = V0 at hX hsrc
          split at hsrc
          · rename_i tt sz' l hv'
            obtain ⟨rfl, hg⟩ := own_of_view hv'
            obtain ⟨_, _, _, _, he⟩ := hX.own_inv
            cases he
          · rename_i l hv'
            have := frz_of_view I hX hv'
            cases this
          · rename_i hv'
            obtain rfl := nil_of_view hv'
            have := hX.nils_inv
            cases this
          · simp at hsrc
      obtain ⟨ad, n, c, he⟩ := key
      simp only [execOp, hop, Sem.run_bind]
      rw [he, run_convert_bytes_string w s d el ad n c hs hel hdd]
      rw [he] at h4 h5
      simp [Builtin.lenOf] at h4
      subst h4
      cases ad with
      | none =>
        simp [Builtin.firstCells] at h5
        subst h5
        simp at h6; subst h6
        rfl
      | some ad =>
        simp only [Builtin.firstCells, Nat.mul_one] at h5
        rw [run_bytesToString w ad m.length c ns (by simpa using h5)]
        have := foldl_push ns []
        simp only [List.nil_append, h6] at this
        rw [show ByteArray.empty = ⟨⟨[]⟩⟩ from rfl, this]
        simp

/-! ## Equality of structs -/
theorem agg_false {t : TypeId} (h : keyOk P t = true) (w : World) : (isAgg t).run P w = .ok false w := by
  unfold keyOk at h
  split at h
  · rename_i hu; simp [isAgg, run_underlying hu]
  · rename_i hu; simp [isAgg, run_underlying hu]
  · rename_i hu; simp [isAgg, run_underlying hu]
  · simp at h


theorem equalIn_key {x y : D} {u v : Value} {r : Bool} {t : TypeId} (hx : RD H x [u]) (hy : RD H y [v]) (h : keyEq x y = some r) (hf : keyFits (tcOf P t) x = true) (n : Nat) (w : World) :
    (Op.equalIn (n + 1) t u v).run P w = .ok r w := by
  unfold keyEq at h
  split at h
  · cases hx; cases hy
    split at h
    · rename_i k a k' b hk
      subst hk; simp at h; subst h
      cases hu : P.underlying t with
      | none => simp [tcOf, hu, keyFits] at hf
      | some d =>
        unfold tcOf at hf; rw [hu] at hf
        cases d <;> simp [keyFits] at hf
        rw [run_equalIn_int w n t k _ a b hu]; rfl
    · simp at h
  · cases hx; cases hy
    rename_i a b
    simp at h; subst h
    cases hu : P.underlying t with
    | none => simp [tcOf, hu, keyFits] at hf
    | some d =>
      unfold tcOf at hf; rw [hu] at hf
      cases d <;> simp [keyFits] at hf
      rw [run_equalIn_string w n t _ _ hu, ByteArray.toList_eq, ByteArray.toList_eq]
      congr 1
      rw [Bool.eq_iff_iff]; simp
  · cases hx; cases hy
    simp at h; subst h
    cases hu : P.underlying t with
    | none => simp [tcOf, hu, keyFits] at hf
    | some d =>
      unfold tcOf at hf; rw [hu] at hf
      cases d <;> simp [keyFits] at hf
      rw [run_equalIn_bool' w n t _ _ hu]
  · simp at h

theorem keyFits_scalar {k : TC} {x : D} (h : keyFits k x = true) : x.isAgg = false := by
  cases x <;> first | rfl | (cases k <;> simp [keyFits] at h)

theorem keyEq_scalar {x y : D} {r : Bool} (h : keyEq x y = some r) : y.isAgg = false := by
  cases y <;> first | rfl | (cases x <;> simp [keyEq] at h)

theorem RD_single {x : D} {cs : List Value} (h : RD H x cs) (hx : x.isAgg = false) : ∃ v, cs = [v] := by
  cases h <;> first | exact ⟨_, rfl⟩ | simp [D.isAgg] at hx

theorem eqFields_ok (n : Nat) (w : World) (c c' : Array Value) : ∀ {fs : List Field} {i : Nat} {xs ys : List D} {r : Bool} {p q cs cs' : List Value}, eqFlds P i fs = true →
    eqDs (fs.map fun f => tcOf P f.type) xs ys = some r → c.toList = p ++ cs → c'.toList = q ++ cs' → p.length = i → q.length = i → RDs H xs cs → RDs H ys cs' →
    (Op.eqFields (n + 1) c c' fs).run P w = .ok r w
  | [], i, xs, ys, r, p, q, cs, cs', _, h, _, _, _, _, _, _ => by
    cases xs <;> cases ys <;> simp [eqDs] at h
    subst h; simp [Op.eqFields]
  | f :: fs, i, xs, ys, r, p, q, cs, cs', hf, h, hc, hc', hp, hq, hx, hy => by
    simp only [eqFlds, Bool.and_eq_true, bne_iff_ne, beq_iff_eq] at hf
    obtain ⟨⟨⟨hf1, hf2⟩, hf3⟩, hf4⟩ := hf
    cases xs with
    | nil => simp [eqDs] at h
    | cons x xs =>
      cases ys with
      | nil => simp [eqDs] at h
      | cons y ys =>
        simp only [List.map_cons, eqDs] at h
        split at h
        · rename_i hfit
          cases hk : keyEq x y with
          | none => simp [hk] at h
          | some b =>
            rw [hk] at h
            cases hx with
            | cons hx1 hx2 =>
              cases hy with
              | cons hy1 hy2 =>
                obtain ⟨u, rfl⟩ := RD_single hx1 (keyFits_scalar hfit)
                obtain ⟨v, rfl⟩ := RD_single hy1 (keyEq_scalar hk)
                have part_ok : ∀ {c : Array Value} {p l : List Value} {u : Value}, c.toList = p ++ ([u] ++ l) → p.length = i → (part f.type c f.offset).run P w = .ok u w := by
                  intro c p l u hc hp
                  have : c[f.offset]? = some u := by rw [← Array.getElem?_toList, hc, hf2, ← hp]; simp
                  simp [part, agg_false hf3, this]
                have h1 := part_ok hc hp
                have h2 := part_ok hc' hq
                have h3 := equalIn_key hx1 hy1 hk hfit n w
                simp only [Op.eqFields, hf1, ne_eq, not_false_eq_true, if_true, Sem.run_bind, h1, h2, h3, Result.andThen_ok]
                cases b with
                | false => simp at h; subst h; simp
                | true =>
                  simp at h
                  simp only [Bool.not_true, Bool.false_eq_true, if_false]
                  exact eqFields_ok n w c c' hf4 h (p := p ++ [u]) (q := q ++ [v]) (by simp [hc]) (by simp [hc']) (by simp [hp]) (by simp [hq]) hx2 hy2
        · simp at h

theorem eqS_ok (G : GlOk gl H0) (I : Inv w0 O H0 N K B0 H B σ a w) (hd : ∀ d, o.dst = some d → d < N) {op : BinOp} {t t' : TypeId} {x y : Operand} {X' Y : X} {ks : List TC} {b : Bool} {e : Eff} {call : CallF} {T : Nat}
    (hop : o.op = .binOp op t x y t') (hx : cX x = some X') (hy : cX y = some Y) (hn : eqFlat P t = some ks) (hb : cEq op = some b)
    (h : evalOp call T (.eqS b ks X' Y) (σ.val gl) σ.get = some e) : Done P w0 O H0 N K B0 H σ a w o e := by
  have hX := X_ok G I hx
  have hY := X_ok G I hy
  simp only [evalOp, okEff] at h
  split at h
  · rename_i xs ys hvx hvy
    rw [hvx] at hX
    rw [hvy] at hY
    cases hr : eqDs ks xs ys with
    | none => simp [hr] at h
    | some r =>
      simp [hr] at h; subst h
      obtain ⟨cs, he, hcs⟩ := hX.agg_cells rfl
      obtain ⟨cs', he', hcs'⟩ := hY.agg_cells rfl
      have h1 : RDs H xs cs.toList := by cases hcs with | d h => cases h with | agg h => exact h
      have h2 : RDs H ys cs'.toList := by cases hcs' with | d h => cases h with | agg h => exact h
      unfold eqFlat at hn
      cases hu : P.underlying t with
      | none => simp [hu] at hn
      | some d =>
        rw [hu] at hn
        cases d <;> simp only at hn <;> try contradiction
        rename_i fs
        split at hn
        · rename_i hc
          simp only [Bool.and_eq_true, Bool.not_eq_true'] at hc
          simp at hn; subst hn
          have hfo : P.fieldsOf t = fs := by simp [Program.fieldsOf, hu]
          have hst := run_equalIn_struct w 9999 t cs cs' (by rw [hfo]; exact hu) hc.1.1
          rw [hfo, eqFields_ok 9998 w cs cs' hc.2 (by simpa using hr) (p := []) (q := []) (by simp) (by simp) rfl rfl h1 h2] at hst
          have hgd := run_eqGuard_agg w op t x y cs cs' hc.1.2
          cases op <;> simp [cEq] at hb <;> subst hb
          · have := run_eql_struct (P := P) w t cs cs'
            rw [hst] at this
            exact Done.val I hd (v := .bool r) (by simp only [execOp, hop]; rw [he, he']; simp [hgd, this]) (.one rfl (.d (.bool _)))
          · have := run_neq_struct (P := P) w t cs cs'
            rw [hst] at this
            exact Done.val I hd (v := .bool (!r)) (by simp only [execOp, hop]; rw [he, he']; simp [hgd, this]) (.one rfl (.d (.bool _)))
        · simp at hn
  · simp at h

end Go.Ev
end

/- Calls: what is handed over, what comes back. -/
section
namespace Go.Ev
variable {P : Program} {gl : Nat → Option D}
variable {w0 : World} {O : Nat → Prop} {H0 : Imm} {N : Nat} {K : Nat → Prop} {B0 : Bind} {H : Imm} {B : Bind} {σ : St} {a : Act} {w : World} {o : Oper}

def ownBlocks (B : Bind) (cells : Cells) (b : Nat) : Prop := ∃ t c, assoc t cells = some c ∧ c.live = true ∧ blkOf (B t) = some b
def kVars (cells : Cells) (t : Nat) : Prop := ∃ e v, assoc t cells = some (.var e v)
def bare (cells : Cells) : St := ⟨[], cells⟩
def noAct : Act := ⟨#[], []⟩

/-- What a call begins with. -/
def Begins (H : Imm) (B : Bind) (w : World) (cells : Cells) : Prop := Inv w (ownBlocks B cells) H 0 (kVars cells) B H B (bare cells) noAct w

/-- What a call ends with. -/
def Ends (H : Imm) (B : Bind) (w : World) (cells : Cells) (r : V) (cells' : Cells) (e : Ending) (w' : World) : Prop :=
  ∃ v H' B', e = .returned v ∧ RVv H' B' r v ∧ Inv w (ownBlocks B cells) H 0 (kVars cells) B H' B' (bare cells') noAct w'

def HasBody (P : Program) (f : FuncId) : Prop := ∃ fn, P.funcs[f]? = some fn ∧ fn.body.isNone = false ∧ (fn.name == "runtime.NumGoroutine") = false

def CallOk (P : Program) (gl : Nat → Option D) (call : CallF) : Prop :=
  ∀ f args cells r cells', call f args cells = some (r, cells') → HasBody P f ∧
    ∀ H B w argv, GlOk gl H → RVvs H B args argv → Begins H B w cells → Calls P f argv.toArray w (Ends H B w cells r cells')

/-! ## Lists of tags -/
theorem assoc_numbered : ∀ {l : List Nat} {k i t : Nat}, assoc i (numbered k l) = some t ↔ k ≤ i ∧ l[i - k]? = some t
  | [], k, i, t => by simp [numbered, assoc]
  | x :: l, k, i, t => by
    simp only [numbered, assoc]
    split
    · rename_i h; subst h; simp
    · rename_i h
      rw [assoc_numbered]
      constructor
      · rintro ⟨h1, h2⟩
        have : i - k = (i - (k + 1)) + 1 := by omega
        exact ⟨by omega, by rw [this]; simpa using h2⟩
      · rintro ⟨h1, h2⟩
        have : i - k = (i - (k + 1)) + 1 := by omega
        rw [this] at h2
        exact ⟨by omega, by simpa using h2⟩

theorem assoc_swapped : ∀ {l : List Nat} {k i t : Nat}, l.Nodup → (assoc t (swapped (numbered k l)) = some i ↔ k ≤ i ∧ l[i - k]? = some t)
  | [], k, i, t, _ => by simp [numbered, swapped, assoc]
  | x :: l, k, i, t, hn => by
    simp only [List.nodup_cons] at hn
    simp only [numbered, swapped, assoc]
    split
    · rename_i h; subst h
      constructor
      · intro h; simp at h; subst h; simp
      · rintro ⟨h1, h2⟩
        by_cases hk : i = k
        · subst hk; rfl
        · exfalso
          have : i - k = (i - (k + 1)) + 1 := by omega
          rw [this] at h2
          simp only [List.getElem?_cons_succ] at h2
          exact hn.1 (List.mem_of_getElem? h2)
    · rename_i h
      rw [assoc_swapped hn.2]
      constructor
      · rintro ⟨h1, h2⟩
        have : i - k = (i - (k + 1)) + 1 := by omega
        exact ⟨by omega, by rw [this]; simpa using h2⟩
      · rintro ⟨h1, h2⟩
        by_cases hk : i = k
        · subst hk; simp at h2; exact absurd h2 h
        · have : i - k = (i - (k + 1)) + 1 := by omega
          rw [this] at h2
          exact ⟨by omega, by simpa using h2⟩

theorem assoc_append {α : Type} : ∀ {l m : List (Nat × α)} {t : Nat}, assoc t (l ++ m) = match assoc t l with | some x => some x | none => assoc t m
  | [], m, t => rfl
  | (k, x) :: l, m, t => by
    simp only [List.cons_append, assoc]
    split
    · rfl
    · exact assoc_append

theorem reach_nodup {get : Nat → Option Cell} {ts rs : List Nat} (h : reach get ts = some rs) : rs.Nodup ∧ ∀ t ∈ ts, t ∈ rs := by
  unfold reach at h
  dsimp only at h
  split at h
  · simp at h; subst h
    refine ⟨addNew_nodup _ _ (addNew_nodup _ _ (addNew_nodup _ _ (by simp))), fun t ht => ?_⟩
    rw [mem_addNew, mem_addNew, mem_addNew]
    exact .inl (.inl (.inr ht))
  · simp at h

theorem pass_mem {get : Nat → Option Cell} {ρ : List (Nat × Nat)} : ∀ {es : List Nat} {back : Cells}, pass get ρ es = some back →
    (∀ e ∈ es, ∃ u c, assoc e ρ = some u ∧ get e = some c ∧ (u, c.ren ρ) ∈ back) ∧ (∀ u c', (u, c') ∈ back → ∃ e c, e ∈ es ∧ assoc e ρ = some u ∧ get e = some c ∧ c' = c.ren ρ) ∧
    back.map Prod.fst = es.map (fun e => (assoc e ρ).getD 0)
  | [], back, h => by simp [pass] at h; subst h; simp
  | e :: es, back, h => by
    simp only [pass] at h
    cases h1 : assoc e ρ with
    | none => simp [h1] at h
    | some u =>
      cases h2 : get e with
      | none => simp [h1, h2] at h
      | some c =>
        cases h3 : pass get ρ es with
        | none => simp [h1, h2, h3] at h
        | some r =>
          simp only [h1, h2, h3, Option.some.injEq] at h; subst h
          obtain ⟨i1, i2, i3⟩ := pass_mem h3
          refine ⟨fun e' he' => ?_, fun u' c' hm => ?_, by simp [h1, i3]⟩
          · simp only [List.mem_cons] at he'
            rcases he' with rfl | he'
            · exact ⟨u, c, h1, h2, by simp⟩
            · obtain ⟨u', c', h4, h5, h6⟩ := i1 e' he'
              exact ⟨u', c', h4, h5, by simp [h6]⟩
          · simp only [List.mem_cons, Prod.mk.injEq] at hm
            rcases hm with ⟨rfl, rfl⟩ | hm
            · exact ⟨e, c, by simp, h1, h2, rfl⟩
            · obtain ⟨e', c'', h4, h5, h6, h7⟩ := i2 u' c' hm
              exact ⟨e', c'', by simp [h4], h5, h6, h7⟩

theorem assoc_of_mem {α : Type} : ∀ {l : List (Nat × α)} {t : Nat} {c : α}, (l.map Prod.fst).Nodup → ((t, c) ∈ l ↔ assoc t l = some c)
  | [], t, c, _ => by simp [assoc]
  | (k, x) :: l, t, c, hn => by
    simp only [List.map_cons, List.nodup_cons] at hn
    simp only [List.mem_cons, Prod.mk.injEq, assoc]
    split
    · rename_i h; subst h
      constructor
      · rintro (⟨_, rfl⟩ | h)
        · rfl
        · exact absurd (List.mem_map.2 ⟨_, h, rfl⟩) hn.1
      · intro h; simp at h; exact .inl ⟨rfl, h.symm⟩
    · rename_i h
      rw [← assoc_of_mem hn.2]
      constructor
      · rintro (⟨h1, _⟩ | h1)
        · exact absurd h1.symm h
        · exact h1
      · exact .inr

theorem CellOk.ren {H' : Imm} {B' : Bind} {ρ : List (Nat × Nat)} {t u : Nat} {c : Cell} (h : CellOk H B w t c) (hH : H.le H') (hρ : ∀ t u, assoc t ρ = some u → B' u = B t) (hu : B' u = B t) :
    CellOk H' B' w u (c.ren ρ) := by
  cases c with
  | var e v => obtain ⟨b, c, h1, h2, h3⟩ := h; exact ⟨b, c, hu.trans h1, h2, h3.ren hH hρ⟩
  | row e sz l =>
    rcases h with ⟨h1, h2⟩ | ⟨b, cap, c, cs, post, h1, h2, h3, h4, h5, h6, h7⟩
    · exact .inl ⟨h1, hu.trans h2⟩
    · exact .inr ⟨b, cap, c, cs, post, hu.trans h1, h2, h3, h4.mono hH, h5, h6, h7⟩
  | map ks vs => obtain ⟨r, es, clk, h1, h2, hw, h3, h4⟩ := h; exact ⟨r, es, clk, hu.trans h1, h2, hw, h3.mono hH, h4.mono hH⟩
  | frz x => show RD H' x [B' u]; rw [hu]; exact RD.mono hH h
  | iter s pos => obtain ⟨b, h1, h2⟩ := h; exact ⟨b, hu.trans h1, h2⟩

theorem ren_live (ρ : List (Nat × Nat)) (c : Cell) : (c.ren ρ).live = c.live := by cases c <;> rfl

theorem Inv.forget (I : Inv w0 O H0 N K B0 H B σ a w) : Inv w0 O H0 0 K B0 H B (bare σ.cells) noAct w := {
  size := rfl
  defers := rfl
  env := fun s => .und _
  cells := I.cells
  sep := I.sep
  apart := I.apart
  imm := I.imm
  le := I.le
  fromH := I.fromH
  frame := I.frame
  grow := I.grow
  os := I.os
  tape := I.tape
  output := I.output
  keep := I.keep }

theorem over_get (vs : List V) (σ : St) (t : Nat) : (σ.put none { res := .und, wr := fzw σ.get vs }).get t = over (fzw σ.get vs) σ.get t := by
  have hnd : ((fzw σ.get vs).map Prod.fst).Nodup := (frzWr_nodup (addNew_nodup _ _ (by simp))).1
  have h := Cells.get_setAll (fzw σ.get vs) σ.cells t hnd
  show assoc t (σ.cells.setAll (fzw σ.get vs)) = _
  unfold over
  cases hc : assoc t (fzw σ.get vs) with
  | some c => exact h.1 c ((assoc_of_mem hnd).2 hc)
  | none =>
    refine h.2 (fun hm => ?_)
    obtain ⟨⟨t', c⟩, hm2, rfl⟩ := List.mem_map.1 hm
    rw [(assoc_of_mem hnd).1 hm2] at hc; cases hc

theorem getElem?_inj {l : List Nat} (hn : l.Nodup) {i j t : Nat} (h1 : l[i]? = some t) (h2 : l[j]? = some t) : i = j := by
  obtain ⟨hi, h1⟩ := List.getElem?_eq_some_iff.1 h1
  obtain ⟨hj, h2⟩ := List.getElem?_eq_some_iff.1 h2
  rcases Nat.lt_trichotomy i j with h | h | h
  · exact absurd (h1.trans h2.symm) (List.pairwise_iff_getElem.1 hn i j hi hj h)
  · exact h
  · exact absurd (h2.trans h1.symm) (List.pairwise_iff_getElem.1 hn j i hj hi h)

theorem RVvs.renL {H' : Imm} {B' : Bind} {ρ : List (Nat × Nat)} (hH : H.le H') (hρ : ∀ t u, assoc t ρ = some u → B' u = B t) {l : List V} {vs : List Value} (h : RVvs H B l vs) : RVvs H' B' (V.renL ρ l) vs := h.ren hH hρ

/-- What a call begins with, out of the caller's state. -/
theorem Inv.begins (I : Inv w0 O H0 N K B0 H B σ a w) {ts : List Nat} {cs0 : Cells} (hn : ts.Nodup) (hp : pass σ.get (swapped (numbered 0 ts)) ts = some cs0) (hlen : ts.length ≤ 900) :
    Begins H (fun i => B (ts.getD i 0)) w cs0 := by
  obtain ⟨h1, h2, h3⟩ := pass_mem hp
  have hsw : ∀ {t i : Nat}, assoc t (swapped (numbered 0 ts)) = some i ↔ ts[i]? = some t := by
    intro t i; rw [assoc_swapped hn]; simp
  have hB : ∀ t u, assoc t (swapped (numbered 0 ts)) = some u → (fun i => B (ts.getD i 0)) u = B t := by
    intro t u h
    have := hsw.1 h
    simp [List.getD, this]
  have hnd : (cs0.map Prod.fst).Nodup := by
    rw [h3]
    have : ts.map (fun e => (assoc e (swapped (numbered 0 ts))).getD 0) = List.range ts.length := by
      apply List.ext_getElem?
      intro i
      rw [List.getElem?_map]
      by_cases hi : i < ts.length
      · rw [List.getElem?_eq_getElem hi, List.getElem?_range hi, Option.map_some, (hsw (i := i)).2 (List.getElem?_eq_getElem hi)]
        rfl
      · rw [List.getElem?_eq_none (by omega), List.getElem?_eq_none (by simpa using hi)]; rfl
    rw [this]; exact List.nodup_range
  have hinv : ∀ i c, assoc i cs0 = some c → ∃ t c0, ts[i]? = some t ∧ σ.get t = some c0 ∧ c = c0.ren (swapped (numbered 0 ts)) := by
    intro i c hc
    obtain ⟨e, c0, _, h5, h6, h7⟩ := h2 i c ((assoc_of_mem hnd).2 hc)
    exact ⟨e, c0, hsw.1 h5, h6, h7⟩
  have hBt : ∀ {i t : Nat}, ts[i]? = some t → B (ts.getD i 0) = B t := fun h => by simp [List.getD, h]
  exact {
    size := rfl
    defers := rfl
    env := fun s => .und _
    cells := fun i c hc => by
      obtain ⟨t, c0, h4, h5, rfl⟩ := hinv i c hc
      exact (I.cells t c0 h5).ren (Imm.le_refl H) hB (hBt h4)
    sep := fun i c b hc hl hb => by
      obtain ⟨t, c0, h4, h5, rfl⟩ := hinv i c hc
      refine ⟨(I.sep t c0 b h5 (by rw [← ren_live]; exact hl) (by rw [← hBt h4]; exact hb)).1, .inl ⟨i, _, hc, hl, hb⟩⟩
    apart := fun i i' c c' b hne hc hc' hl hl' hb hb' => by
      obtain ⟨t, c0, h4, h5, rfl⟩ := hinv i c hc
      obtain ⟨t', c0', h4', h5', rfl⟩ := hinv i' c' hc'
      have htt : t ≠ t' := fun e => hne (getElem?_inj hn h4 (e ▸ h4'))
      exact I.apart t t' c0 c0' b htt h5 h5' (by rw [← ren_live]; exact hl) (by rw [← ren_live]; exact hl') (by rw [← hBt h4]; exact hb) (by rw [← hBt h4']; exact hb')
    imm := I.imm
    le := Imm.le_refl H
    fromH := fun b o h => .inl ⟨o, h⟩
    frame := fun _ _ _ => rfl
    grow := Nat.le_refl _
    os := rfl
    tape := rfl
    output := rfl
    keep := fun i hi => by
      obtain ⟨ty, v, hv⟩ := hi
      obtain ⟨t, c0, h4, _, _⟩ := hinv i _ hv
      have := (List.getElem?_eq_some_iff.1 h4).1
      exact ⟨rfl, by omega, ty, v, hv⟩ }

end Go.Ev
end

/- Calls: the caller's state behind the call. -/
section
namespace Go.Ev
variable {P : Program} {gl : Nat → Option D}
variable {w0 : World} {O : Nat → Prop} {H0 : Imm} {N : Nat} {K : Nat → Prop} {B0 : Bind} {H : Imm} {B : Bind} {σ : St} {a : Act} {w : World} {o : Oper}

theorem mem_noVars {get : Nat → Option Cell} : ∀ {l : List Nat} {t : Nat}, t ∈ noVars get l ↔ t ∈ l ∧ ∀ e v, get t ≠ some (.var e v)
  | [], t => by simp [noVars]
  | u :: l, t => by
    simp only [noVars]
    split
    · rename_i ty v hv
      rw [mem_noVars]
      constructor
      · rintro ⟨h1, h2⟩; exact ⟨by simp [h1], h2⟩
      · rintro ⟨h1, h2⟩
        simp only [List.mem_cons] at h1
        rcases h1 with rfl | h1
        · exact absurd hv (h2 ty v)
        · exact ⟨h1, h2⟩
    · rename_i hv
      simp only [List.mem_cons]
      rw [mem_noVars]
      constructor
      · rintro (rfl | ⟨h1, h2⟩)
        · exact ⟨.inl rfl, fun e v => hv e v⟩
        · exact ⟨.inr h1, h2⟩
      · rintro ⟨rfl | h1, h2⟩
        · exact .inl rfl
        · exact .inr ⟨h1, h2⟩

theorem mem_newTags {T j : Nat} {new : List Nat} (h : j < new.length) (h4 : new.length ≤ 4) : T + j ∈ newTags T new := by
  cases new with
  | nil => simp at h
  | cons x l => simp only [newTags, List.mem_cons, List.not_mem_nil, or_false]; omega

theorem Inv.ends (I : Inv w0 O H0 N K B0 H B σ a w) {dst : Option Nat} {ts es : List Nat} {cs0 cs back : Cells} {r : V} {T : Nat} {e : Ending} {w' : World} (hd : ∀ d, dst = some d → d < N)
    (hn : ts.Nodup) (hp : pass σ.get (swapped (numbered 0 ts)) ts = some cs0) (hT : 1000 ≤ T)
    (hes : reach (fun t => assoc t cs) (List.range ts.length ++ r.refs) = some es)
    (hback : pass (fun t => assoc t cs) (numbered 0 ts ++ swapped (numbered T (without es ts.length))) es = some back)
    (h4 : (without es ts.length).length ≤ 4) (hfar : ∀ t ∈ ts, t < T ∨ T + 4 ≤ t)
    (hE : Ends H (fun i => B (ts.getD i 0)) w cs0 r cs e w') :
    ∃ v H'' B'', e = .returned v ∧ H.le H'' ∧ Inv w0 O H0 N K B0 H'' B'' (σ.put dst { res := r.ren (numbered 0 ts ++ swapped (numbered T (without es ts.length))), wr := back, kill := noVars σ.get ts ++ newTags T (without es ts.length) }) (a.put dst v) w' := by
  classical
  obtain ⟨v, H', B', rfl, hr, J⟩ := hE
  obtain ⟨hesn, hesm⟩ := reach_nodup hes
  generalize hnew : without es ts.length = new at *
  have hnewn : new.Nodup := by rw [← hnew]; exact hesn.filter _
  have hnewm : ∀ i, i ∈ new ↔ i ∈ es ∧ ts.length ≤ i := by intro i; rw [← hnew]; simp [without]
  generalize hρd : numbered 0 ts ++ swapped (numbered T new) = ρ at *
  -- what the renaming is
  have hρ : ∀ i u, assoc i ρ = some u ↔ (ts[i]? = some u) ∨ (ts.length ≤ i ∧ T ≤ u ∧ new[u - T]? = some i) := by
    intro i u
    rw [← hρd, assoc_append]
    cases h1 : assoc i (numbered 0 ts) with
    | some t =>
      have h2 := assoc_numbered.1 h1
      simp only [Nat.sub_zero] at h2
      have hlt := (List.getElem?_eq_some_iff.1 h2.2).1
      simp only [Option.some.injEq, h2.2]
      constructor
      · rintro rfl; exact .inl rfl
      · rintro (h | ⟨h, _⟩)
        · exact h
        · omega
    | none =>
      have hge : ts[i]? = none := by
        cases h2 : ts[i]? with
        | none => rfl
        | some t => rw [assoc_numbered.2 ⟨Nat.zero_le _, by simpa using h2⟩] at h1; cases h1
      simp only [hge]
      rw [assoc_swapped hnewn]
      have : ts.length ≤ i := List.getElem?_eq_none_iff.1 hge
      simp [this]
  have hinE : ∀ i u, assoc i ρ = some u → i ∈ es := by
    intro i u h
    rcases (hρ i u).1 h with h | ⟨_, _, h⟩
    · exact hesm i (by simp [(List.getElem?_eq_some_iff.1 h).1])
    · exact ((hnewm i).1 (List.mem_of_getElem? h)).1
  have hinj : ∀ i j u, assoc i ρ = some u → assoc j ρ = some u → i = j := by
    intro i j u hi hj
    rcases (hρ i u).1 hi with h1 | ⟨h1, h2, h3⟩ <;> rcases (hρ j u).1 hj with h5 | ⟨h5, h6, h7⟩
    · exact getElem?_inj hn h1 h5
    · exfalso
      have := hfar u (List.mem_of_getElem? h1)
      have := (List.getElem?_eq_some_iff.1 h7).1
      omega
    · exfalso
      have := hfar u (List.mem_of_getElem? h5)
      have := (List.getElem?_eq_some_iff.1 h3).1
      omega
    · rw [h3] at h7; cases h7; rfl
  let B'' : Bind := fun t => match es.find? (fun i => assoc i ρ == some t) with
    | some i => B' i
    | none => B t
  have hB1 : ∀ i t, assoc i ρ = some t → B'' t = B' i := by
    intro i t h
    show (match es.find? (fun i => assoc i ρ == some t) with | some i => B' i | none => B t) = B' i
    cases hf : es.find? (fun i => assoc i ρ == some t) with
    | none =>
      have := List.find?_eq_none.1 hf i (hinE i t h)
      simp [h] at this
    | some j =>
      have := List.find?_some hf
      simp only [beq_iff_eq] at this
      rw [hinj i j t h this]
  have hB2 : ∀ t, (∀ i, assoc i ρ ≠ some t) → B'' t = B t := by
    intro t h
    show (match es.find? (fun i => assoc i ρ == some t) with | some i => B' i | none => B t) = B t
    cases hf : es.find? (fun i => assoc i ρ == some t) with
    | none => rfl
    | some j =>
      have := List.find?_some hf
      simp only [beq_iff_eq] at this
      exact absurd this (h j)
  obtain ⟨p1, p2, p3⟩ := pass_mem hback
  have hsome : ∀ i ∈ es, ∃ u, assoc i ρ = some u := fun i hi => by obtain ⟨u, c, h, _⟩ := p1 i hi; exact ⟨u, h⟩
  have hbn : (back.map Prod.fst).Nodup := by
    rw [p3, List.Nodup, List.pairwise_map]
    refine List.Pairwise.imp_of_mem ?_ hesn
    intro i j hi hj hne heq
    obtain ⟨u, hu⟩ := hsome i hi
    obtain ⟨u', hu'⟩ := hsome j hj
    rw [hu, hu'] at heq
    simp only [Option.getD_some] at heq
    subst heq
    exact hne (hinj i j u hu hu')
  have hbm : ∀ t, t ∈ back.map Prod.fst ↔ ∃ i, assoc i ρ = some t := by
    intro t
    rw [p3, List.mem_map]
    constructor
    · rintro ⟨i, hi, rfl⟩
      obtain ⟨u, hu⟩ := hsome i hi
      exact ⟨i, by rw [hu]; rfl⟩
    · rintro ⟨i, hi⟩
      exact ⟨i, hinE i t hi, by rw [hi]; rfl⟩
  -- the callee's first cells
  obtain ⟨q1, q2, q3⟩ := pass_mem hp
  have hsw : ∀ {t i : Nat}, assoc t (swapped (numbered 0 ts)) = some i ↔ ts[i]? = some t := by
    intro t i; rw [assoc_swapped hn]; simp
  have hnd0 : (cs0.map Prod.fst).Nodup := by
    rw [q3, List.Nodup, List.pairwise_map]
    refine List.Pairwise.imp_of_mem ?_ hn
    intro x y hx hy hne heq
    obtain ⟨ux, cx, hux, _⟩ := q1 x hx
    obtain ⟨uy, cy, huy, _⟩ := q1 y hy
    rw [hux, huy] at heq
    simp only [Option.getD_some] at heq
    subst heq
    have h1 := hsw.1 hux; have h2 := hsw.1 huy
    rw [h1] at h2; cases h2
    exact hne rfl
  have hinv : ∀ i c, assoc i cs0 = some c → ∃ t c0, ts[i]? = some t ∧ σ.get t = some c0 ∧ c = c0.ren (swapped (numbered 0 ts)) := by
    intro i c hc
    obtain ⟨e, c0, _, h5, h6, h7⟩ := q2 i c ((assoc_of_mem hnd0).2 hc)
    exact ⟨e, c0, hsw.1 h5, h6, h7⟩
  have hBt : ∀ {i t : Nat}, ts[i]? = some t → B (ts.getD i 0) = B t := fun h => by simp [List.getD, h]
  have hvar : ∀ i t e v, ts[i]? = some t → σ.get t = some (.var e v) → B' i = B t ∧ ∃ e' v', assoc i cs = some (.var e' v') := by
    intro i t ty v hi hv
    obtain ⟨u, c, h1, h2, h3⟩ := q1 t (List.mem_of_getElem? hi)
    have hu := hsw.1 h1
    have : u = i := getElem?_inj hn hu hi
    subst this
    rw [hv] at h2; cases h2
    have hk : kVars cs0 u := ⟨_, _, (assoc_of_mem hnd0).1 h3⟩
    obtain ⟨k1, _, k3⟩ := J.keep u hk
    exact ⟨k1.trans (hBt hi), k3⟩
  have htouch : ∀ b, ownBlocks (fun i => B (ts.getD i 0)) cs0 b → touched B σ { res := r.ren ρ, wr := back, kill := noVars σ.get ts ++ newTags T new } b := by
    rintro b ⟨i, c, hc, hl, hb⟩
    obtain ⟨t, c0, h1, h2, rfl⟩ := hinv i c hc
    exact ⟨t, c0, (hbm t).2 ⟨i, (hρ i t).2 (.inl h1)⟩, h2, by rw [← ren_live]; exact hl, by rw [← hBt h1]; exact hb⟩
  refine ⟨v, H', B'', rfl, J.le, ?_⟩
  have hwrB : ∀ t c, (t, c) ∈ back → ∃ i c0, assoc i ρ = some t ∧ assoc i cs = some c0 ∧ c = c0.ren ρ := by
    intro t c h
    obtain ⟨i, c0, _, h1, h2, h3⟩ := p2 t c h
    exact ⟨i, c0, h1, h2, h3⟩
  refine I.put hd J.le ?_ (hr.ren (Imm.le_refl H') hB1) J.imm hbn ?_ ?_ ?_ ?_ ?_ ?_ J.grow J.os J.tape J.output
  · -- the binds that stand
    intro t ht
    by_cases hm : ∃ i, assoc i ρ = some t
    · obtain ⟨i, hi⟩ := hm
      have hk : t ∉ noVars σ.get ts ++ newTags T new := by
        rcases ht with ht | ht
        · exact ht
        · exact absurd ((hbm t).2 ⟨i, hi⟩) ht
      simp only [List.mem_append, not_or] at hk
      rcases (hρ i t).1 hi with h1 | ⟨h1, h2, h3⟩
      · have : ∃ e v, σ.get t = some (.var e v) := by
          have := hk.1
          rw [mem_noVars] at this
          have hts := List.mem_of_getElem? h1
          simp only [hts, true_and] at this
          exact Classical.byContradiction (fun hne => this (fun ty v hv => hne ⟨ty, v, hv⟩))
        obtain ⟨ty', v', hv'⟩ := this
        rw [hB1 i t hi]
        exact (hvar i t ty' v' h1 hv').1
      · exfalso
        have hlt := (List.getElem?_eq_some_iff.1 h3).1
        have := mem_newTags (T := T) hlt h4
        rw [show T + (t - T) = t by omega] at this
        exact hk.2 this
    · exact hB2 t (fun i hi => hm ⟨i, hi⟩)
  · intro t c h
    obtain ⟨i, c0, h1, h2, rfl⟩ := hwrB t c h
    exact (J.cells i c0 h2).ren (Imm.le_refl H') hB1 (hB1 i t h1)
  · intro b hb hnt
    exact J.frame b hb (fun ho => hnt (htouch b ho))
  · intro b ob hb
    rcases J.fromH b ob hb with ⟨o', ho'⟩ | h | h
    · have h1 := J.le b o' ho'
      rw [hb] at h1; cases h1
      exact .inl ho'
    · exact .inr (.inl (htouch b h))
    · exact .inr (.inr h)
  · intro t c b h hl hb
    obtain ⟨i, c0, h1, h2, rfl⟩ := hwrB t c h
    rw [hB1 i t h1] at hb
    obtain ⟨j1, j2⟩ := J.sep i c0 b h2 (by rw [← ren_live]; exact hl) hb
    exact ⟨j1, j2.elim (fun h => .inr (htouch b h)) .inl⟩
  · intro t t' c c' b hne h h' hl hl' hb hb'
    obtain ⟨i, c0, h1, h2, rfl⟩ := hwrB t c h
    obtain ⟨i', c0', h1', h2', rfl⟩ := hwrB t' c' h'
    rw [hB1 i t h1] at hb
    rw [hB1 i' t' h1'] at hb'
    have hii : i ≠ i' := fun e => by subst e; rw [h1] at h1'; cases h1'; exact hne rfl
    exact J.apart i i' c0 c0' b hii h2 h2' (by rw [← ren_live]; exact hl) (by rw [← ren_live]; exact hl') hb hb'
  · intro t ht
    obtain ⟨k1, k2, ty', v', k3⟩ := I.keep t ht
    by_cases hm : ∃ i, assoc i ρ = some t
    · obtain ⟨i, hi⟩ := hm
      rcases (hρ i t).1 hi with h1 | ⟨h1, h2, h3⟩
      · obtain ⟨m1, ty'', v'', m2⟩ := hvar i t ty' v' h1 k3
        refine ⟨(hB1 i t hi).trans m1, fun c hc => ?_⟩
        obtain ⟨j, c0, h5, h6, rfl⟩ := hwrB t c hc
        have : j = i := hinj j i t h5 hi
        subst this
        rw [m2] at h6; cases h6
        exact ⟨_, _, rfl⟩
      · omega
    · refine ⟨hB2 t (fun i hi => hm ⟨i, hi⟩), fun c hc => ?_⟩
      obtain ⟨j, c0, h5, _, _⟩ := hwrB t c hc
      exact absurd ⟨j, h5⟩ hm

end Go.Ev
end

/- Each operation of the model does what the evaluator says: all of them, by what the program's operation is. -/
section
namespace Go.Ev
variable {mv : Nat → Bool} {P : Program} {gl : Nat → Option D}
variable {w0 : World} {O : Nat → Prop} {H0 : Imm} {N : Nat} {K : Nat → Prop} {B0 : Bind} {H : Imm} {B : Bind} {σ : St} {a : Act} {w : World} {o : Oper}

theorem GlOk.mono {H' : Imm} (h : GlOk gl H0) (hl : H0.le H') : GlOk gl H' := fun g x hx => by
  obtain ⟨c, e, fr, h1, h3⟩ := h g x hx
  exact ⟨c, e, fr, hl _ _ h1, h3.mono hl⟩

theorem call_wp (G : GlOk gl H0) (I : Inv w0 O H0 N K B0 H B σ a w) (hd : ∀ d, o.dst = some d → d < N) {call : CallF} (hcall : CallOk P gl call) {T : Nat} (hT : 1000 ≤ T) {m : Bool} {f : FuncId} {args : List V} {argv : List Value} {e : Eff}
    {Kn : Act → World → Prop} {Q : Exit → Act → World → Prop}
    (hargs : RVvs H B args argv) (h : callEff call m T f args σ.get = some e)
    (hrun : HasBody P f → (execOp a.eval o).run P w = .ok (.enter f argv.toArray) w)
    (hK : ∀ H' B' v w', H.le H' → Inv w0 O H0 N K B0 H' B' (σ.put o.dst e) (a.put o.dst v) w' → Kn (a.put o.dst v) w') : o.wp P a w Kn Q := by
  unfold callEff at h
  cases h1 : frzM m σ.get args with
  | none => simp [h1] at h
  | some as =>
    simp only [h1] at h
    cases h2 : reach (over (fzwM m σ.get args) σ.get) (V.refsL as) with
    | none => simp [h2] at h
    | some ts =>
      simp only [h2] at h
      cases h3 : pass (over (fzwM m σ.get args) σ.get) (swapped (numbered 0 ts)) ts with
      | none => simp [h3] at h
      | some cs0 =>
        simp only [h3] at h
        cases h4 : call f (V.renL (swapped (numbered 0 ts)) as) cs0 with
        | none => simp [h4] at h
        | some rc =>
          obtain ⟨r, cs⟩ := rc
          simp only [h4] at h
          cases h5 : reach (fun t => assoc t cs) (List.range ts.length ++ r.refs) with
          | none => simp [h5] at h
          | some es =>
            simp only [h5] at h
            cases h6 : pass (fun t => assoc t cs) (numbered 0 ts ++ swapped (numbered (pickT T ts) (without es ts.length))) es with
            | none => simp [h6] at h
            | some back =>
              simp only [h6] at h
              split at h
              · rename_i hc
                simp only [Option.some.injEq] at h; subst h
                obtain ⟨c1, c2, c3⟩ := hc
                obtain ⟨H1, I1, hle, hget, has, hpf⟩ : ∃ H1, Inv w0 O H0 N K B0 H1 B (σ.put none { res := .und, wr := fzwM m σ.get args }) a w ∧ H.le H1 ∧
                    (σ.put none { res := .und, wr := fzwM m σ.get args }).get = over (fzwM m σ.get args) σ.get ∧ RVvs H1 B as argv ∧
                    (∀ dst x wr ks, ((σ.put none { res := .und, wr := fzwM m σ.get args }).put dst { res := x, wr := wr, kill := ks }) = σ.put dst { res := x, wr := fzwM m σ.get args ++ wr, kill := ks }) := by
                  cases m with
                  | true =>
                    simp only [frzM, Option.some.injEq] at h1; subst h1
                    exact ⟨H, I, Imm.le_refl H, by funext t; simp [over, fzwM, assoc, St.put, killE, killC, Cells.setAll, St.get], hargs, fun _ _ _ _ => rfl⟩
                  | false =>
                    obtain ⟨H1, I1, hle, hF⟩ := I.freeze args
                    exact ⟨H1, I1, hle, funext (over_get args σ), (hargs.mono hle (fun _ _ => rfl)).frz as hF h1, fun dst x wr ks => put_after_freeze σ dst x args wr ks⟩
                obtain ⟨hn, hm⟩ := reach_nodup h2
                have hbeg : Begins H1 (fun i => B (ts.getD i 0)) w cs0 := I1.begins hn (by rw [hget]; exact h3) c2
                obtain ⟨hbody, hcalls⟩ := hcall _ _ _ _ _ h4
                have hsw : ∀ t u, assoc t (swapped (numbered 0 ts)) = some u → (fun i => B (ts.getD i 0)) u = B t := by
                  intro t u h
                  rw [assoc_swapped hn] at h
                  simp only [Nat.sub_zero] at h
                  simp [List.getD, h.2]
                have hC := hcalls H1 (fun i => B (ts.getD i 0)) w argv ((G.mono I.le).mono hle) (has.renL (Imm.le_refl H1) hsw) hbeg
                have hT' : 1000 ≤ pickT T ts := by unfold pickT; split <;> (try split) <;> omega
                have hfar : ∀ t ∈ ts, t < pickT T ts ∨ pickT T ts + 4 ≤ t := by
                  intro t ht
                  have := List.all_eq_true.1 c3 t ht
                  simpa using this
                unfold Oper.wp
                rw [hrun hbody]
                refine Calls.mono hC (fun en w' hE => ?_)
                obtain ⟨v, H'', B'', rfl, hle', J⟩ := I1.ends (dst := o.dst) hd hn (by rw [hget]; exact h3) hT' h5 h6 c1 hfar hE
                rw [hpf, hget] at J
                exact hK H'' B'' v w' (Imm.le_trans hle hle') J
              · simp at h

theorem Done.wp {e : Eff} {Kn : Act → World → Prop} {Q : Exit → Act → World → Prop} (hD : Done P w0 O H0 N K B0 H σ a w o e)
    (hK : ∀ H' B' v w', H.le H' → Inv w0 O H0 N K B0 H' B' (σ.put o.dst e) (a.put o.dst v) w' → Kn (a.put o.dst v) w') : o.wp P a w Kn Q := by
  obtain ⟨H', B', v, w', hr, hl, J⟩ := hD
  rcases hr with hr | ⟨hr, rfl⟩
  · exact wp_value hr (hK H' B' v w' hl J)
  · exact wp_skp hr (hK H' B' undef w' hl J)

theorem map_some {α β : Type} {x : Option α} {f : α → β} {y : β} (h : x.map f = some y) : ∃ z, x = some z ∧ f z = y := by
  cases x with
  | none => simp at h
  | some z => exact ⟨z, rfl, by simpa using h⟩

theorem cXs_two {x y : Operand} {l : List X} (h : cXs [x, y] = some l) : ∃ a b, cX x = some a ∧ cX y = some b ∧ l = [a, b] := by
  simp only [cXs] at h
  cases h1 : cX x with
  | none => simp [h1] at h
  | some a =>
    cases h2 : cX y with
    | none => simp [h1, h2] at h
    | some b => simp [h1, h2] at h; exact ⟨a, b, rfl, rfl, h.symm⟩

theorem cXs_len : ∀ {l : List Operand} {xs : List X}, cXs l = some xs → xs.length = l.length
  | [], xs, h => by simp [cXs] at h; subst h; rfl
  | x :: l, xs, h => by
    simp only [cXs] at h
    cases h1 : cX x with
    | none => simp [h1] at h
    | some a =>
      cases h2 : cXs l with
      | none => simp [h1, h2] at h
      | some b => simp [h1, h2] at h; subst h; simp [cXs_len h2]

theorem cXs_one {x : Operand} {l : List X} (h : cXs [x] = some l) : ∃ a, cX x = some a ∧ l = [a] := by
  simp only [cXs] at h
  cases h1 : cX x with
  | none => simp [h1] at h
  | some a => simp [h1] at h; exact ⟨a, rfl, h.symm⟩

theorem builtin_ok (G : GlOk gl H0) (I : Inv w0 O H0 N K B0 H B σ a w) {T : Nat} (hT : 1000 ≤ T) (hd : ∀ d, o.dst = some d → d < N) {b : Builtin} {ts : Array TypeId} {args : Array Operand} {xs : List X} {op : SOp} {e : Eff} {call : CallF}
    (hop : o.op = .call { callee := .builtin b, args := args, argTypes := ts }) (hxs : cXs args.toList = some xs) (hc : cBuiltin P b ts.toList xs = some op)
    (h : evalOp call T op (σ.val gl) σ.get = some e) : Done P w0 O H0 N K B0 H σ a w o e := by
  have hlen := cXs_len hxs
  unfold cBuiltin at hc
  split at hc
  · -- append
    rename_i t u s x hts
    obtain ⟨p, q, hpq⟩ : ∃ p q, args.toList = [p, q] := by
      match hh : args.toList, hlen with
      | [p, q], _ => exact ⟨p, q, rfl⟩
    rw [hpq] at hxs
    obtain ⟨p', q', hp, hq, hl⟩ := cXs_two hxs
    simp only [List.cons.injEq, and_true] at hl
    obtain ⟨rfl, rfl⟩ := hl
    split at hc
    · rename_i el d hu hu'
      split at hc
      · rename_i sz by' z hsz hby hz
        split at hc
        · rename_i hcond
          simp at hc; subst hc
          exact app_ok G I hT hd hop hts hpq hu hu' hcond.2.2 hsz hby hz hcond.2.1 hcond.1 hp hq h
        · simp at hc
      · simp at hc
    · simp at hc
  · -- len
    rename_i t x hts
    obtain ⟨p, hp1⟩ : ∃ p, args.toList = [p] := by
      match hh : args.toList, hlen with
      | [p], _ => exact ⟨p, rfl⟩
    rw [hp1] at hxs
    obtain ⟨p', hp, hl⟩ := cXs_one hxs
    simp only [List.cons.injEq, and_true] at hl
    subst hl
    split at hc
    · rename_i hu; simp at hc; subst hc
      exact len_ok G I hd hop hts hp1 hu (.inl ⟨rfl, rfl⟩) hp h
    · rename_i el hu; simp at hc; subst hc
      exact len_ok G I hd hop hts hp1 hu (.inr (.inl ⟨rfl, _, rfl⟩)) hp h
    · rename_i k el hu; simp at hc; subst hc
      exact len_ok G I hd hop hts hp1 hu (.inr (.inr ⟨rfl, _, _, rfl⟩)) hp h
    · rename_i n el hu; simp at hc; subst hc
      simp only [evalOp, okEff, Option.some.injEq] at h; subst h
      exact lenA_ok I hd hop hts hp1 hu
    · simp at hc
  · rename_i x y hts
    obtain ⟨p, q, hpq⟩ : ∃ p q, args.toList = [p, q] := by
      match hh : args.toList, hlen with
      | [p, q], _ => exact ⟨p, q, rfl⟩
    rw [hpq] at hxs
    obtain ⟨p', q', hp, hq, hl⟩ := cXs_two hxs
    simp only [List.cons.injEq, and_true] at hl
    obtain ⟨rfl, rfl⟩ := hl
    simp at hc; subst hc
    exact mxn_ok (mx := false) G I hd hop hpq hp hq h
  · rename_i x y hts
    obtain ⟨p, q, hpq⟩ : ∃ p q, args.toList = [p, q] := by
      match hh : args.toList, hlen with
      | [p, q], _ => exact ⟨p, q, rfl⟩
    rw [hpq] at hxs
    obtain ⟨p', q', hp, hq, hl⟩ := cXs_two hxs
    simp only [List.cons.injEq, and_true] at hl
    obtain ⟨rfl, rfl⟩ := hl
    simp at hc; subst hc
    exact mxn_ok (mx := true) G I hd hop hpq hp hq h
  · simp at hc

theorem run_call_fn {f : FuncId} {args : Array Operand} {ts : Array TypeId} {g : Operand} {caps : List Value} (hop : o.op = .call { callee := .value g, args := args, argTypes := ts })
    (hg : a.eval g = .func (.func f) #[] caps.toArray) (hb : HasBody P f) : (execOp a.eval o).run P w = .ok (.enter f (args.toList.map a.eval ++ caps).toArray) w := by
  obtain ⟨fn, h1, h2, h3⟩ := hb
  have h4 : args.map a.eval ++ caps.toArray = (args.toList.map a.eval ++ caps).toArray := by apply Array.ext'; simp
  simp only [execOp, hop, resolve, hg, Deferred.ofValue, Sem.run_bind, Sem.run_pure, Result.andThen_ok, invoke, callFunc, run_program, h1, h3, Bool.false_eq_true, if_false, h2]
  rw [← h4]
  simp

theorem evalOp_ok (G : GlOk gl H0) (I : Inv w0 O H0 N K B0 H B σ a w) {call : CallF} (hcall : CallOk P gl call) {T : Nat} (hT : 1000 ≤ T) (hd : ∀ d, o.dst = some d → d < N) {op : SOp} {e : Eff}
    {Kn : Act → World → Prop} {Q : Exit → Act → World → Prop}
    (hc : cOp P mv o = some op) (h : evalOp call T op (σ.val gl) σ.get = some e)
    (hK : ∀ H' B' v w', H.le H' → Inv w0 O H0 N K B0 H' B' (σ.put o.dst e) (a.put o.dst v) w' → Kn (a.put o.dst v) w') : o.wp P a w Kn Q := by
  cases hop : o.op with
  | move x =>
    simp only [cOp, hop] at hc
    obtain ⟨X', hx, rfl⟩ := map_some hc
    simp only [evalOp, okEff, Option.some.injEq] at h; subst h
    exact (mov_ok G I hd hx (.inl hop)).wp hK
  | assign x =>
    simp only [cOp, hop, cAssign] at hc
    split at hc
    · rename_i hn
      have hx : x = .const (.slice none 0 0) := by
        unfold isNilSlice at hn
        split at hn
        · rfl
        · simp at hn
      subst hx
      split at hc
      · split at hc
        · split at hc
          · simp at hc; subst hc
            simp only [evalOp, Option.some.injEq] at h; subst h
            exact (nilrow_ok I hT hd hop).wp hK
          · simp at hc
        · simp at hc
      · simp at hc
    · obtain ⟨X', hx, rfl⟩ := map_some hc
      simp only [evalOp, okEff, Option.some.injEq] at h; subst h
      exact (mov_ok G I hd hx (.inr hop)).wp hK
  | pick c x y =>
    simp only [cOp, hop] at hc
    split at hc
    · rename_i h1 h2 h3
      simp at hc; subst hc
      exact (pick_ok G I hd h1 h2 h3 hop h).wp hK
    · simp at hc
  | alloc t =>
    simp only [cOp, hop] at hc
    obtain ⟨z, hz, rfl⟩ := map_some hc
    simp only [evalOp, Option.some.injEq] at h; subst h
    exact (alloc_ok I hT hd hz hop).wp hK
  | box t x =>
    simp only [cOp, hop] at hc
    obtain ⟨X', hx, rfl⟩ := map_some hc
    simp only [evalOp] at h
    split at h
    · simp at h; subst h
      exact (box_ok G I hT hd hx hop ‹_›).wp hK
    · simp at h
  | build t parts =>
    simp only [cOp, hop] at hc
    split at hc
    · rename_i fs xs hu hxs
      split at hc
      · rename_i zs hz
        split at hc
        · rename_i hcond
          simp only [Bool.and_eq_true] at hcond
          simp at hc; subst hc
          exact (build_ok G I hd hop hxs hcond.2 (.inl ⟨fs, hu, hcond.1⟩) h).wp hK
        · simp at hc
      · simp at hc
    · rename_i n el xs hu hxs
      split at hc
      · rename_i z sz hz hsz
        split at hc
        · rename_i hcond
          simp only [Bool.and_eq_true, beq_iff_eq] at hcond
          simp at hc; subst hc
          exact (build_ok G I hd hop hxs hcond.2 (.inr ⟨n, el, z, hu, by rw [hsz, hcond.1], rfl⟩) h).wp hK
        · simp at hc
      · simp at hc
    · simp at hc
  | buildSlice t n parts =>
    simp only [cOp, hop] at hc
    split at hc
    · rename_i el xs hu hxs
      split at hc
      · rename_i sz z hsz hz
        split at hc
        · rename_i hcond
          simp at hc; subst hc
          exact (bsl_ok G I hT hd hop hxs hu hsz hz hcond.1 hcond.2.1 hcond.2.2.1 hcond.2.2.2.1 h).wp hK
        · simp at hc
      · simp at hc
    · simp at hc
  | load t x =>
    simp only [cOp, hop] at hc
    split at hc
    · rename_i sz ag X' hsz hag hx
      simp at hc; subst hc
      simp only [evalOp] at h
      split at h
      · simp [okEff] at h; subst h
        exact (ld_ok G I hd hop hx hsz hag ‹_›).wp hK
      · simp at h
    · simp at hc
  | store t x y =>
    simp only [cOp, hop] at hc
    split at hc
    · rename_i sz X' Y hsz hx hy
      simp at hc; subst hc
      simp only [evalOp] at h
      split at h
      · simp at h; subst h
        exact (st_ok G I hd hop hx hy hsz ‹_›).wp hK
      · simp at h
    · simp at hc
  | nilCheck x =>
    simp only [cOp, hop] at hc
    obtain ⟨X', hx, rfl⟩ := map_some hc
    exact (nilc_ok G I hd hop hx h).wp hK
  | binOp b t x y t' =>
    simp only [cOp, hop] at hc
    split at hc
    · rename_i X' Y hx hy
      split at hc
      · rename_i n b hn hb
        simp at hc; subst hc
        exact (eqS_ok G I hd hop hx hy hn hb h).wp hK
      · split at hc
        · simp at hc
        · rename_i hn
          simp at hc; subst hc
          simp only [evalOp] at h
          split at h
          · simp [okEff] at h; subst h
            exact (bin_ok G I hd hop hx hy hn ‹_›).wp hK
          · simp at h
    · simp at hc
  | unOp u t x =>
    simp only [cOp, hop] at hc
    obtain ⟨X', hx, rfl⟩ := map_some hc
    simp only [evalOp] at h
    split at h
    · simp [okEff] at h; subst h
      exact (un_ok G I hd hop hx ‹_›).wp hK
    · simp at h
  | convert s d x =>
    simp only [cOp, hop] at hc
    split at hc
    · rename_i ks k X' hs hdd hx
      simp at hc; subst hc
      exact (cnvI_ok G I hd hop hs hdd hx h).wp hK
    · rename_i X' hs hdd hx
      simp at hc; subst hc
      have hX := X_ok G I hx
      simp only [evalOp, okEff] at h
      split at h
      · rename_i bs hval
        rw [hval] at hX
        simp at h; subst h
        exact (Done.val I hd (v := a.eval x) (by simp [execOp, hop, convert, run_underlying hs, run_underlying hdd, hX.str_inv]) hX).wp hK
      · simp at h
    · rename_i ks X' hs hdd hx
      simp at hc; subst hc
      exact (cnvIS_ok G I hd hop hs hdd hx h).wp hK
    · rename_i el X' hs hdd hx
      split at hc
      · rename_i hel hsz
        simp at hc; subst hc
        exact (cnvSB_ok G I hd hop hs hdd hel hx h).wp hK
      · simp at hc
    · rename_i el X' hs hdd hx
      split at hc
      · rename_i hel hsz
        simp at hc; subst hc
        exact (cnvBS_ok G I hd hop hs hdd hel hx h).wp hK
      · simp at hc
    · simp at hc
  | makeFunc f first cap =>
    cases f with
    | func f =>
      simp only [cOp, hop] at hc
      split at hc
      · rename_i cs hf hx
        simp at hc; subst hc
        exact (mkf_ok G I hd hop hf hx h).wp hK
      · simp at hc
    | _ => simp [cOp, hop] at hc
  | makeMap t r =>
    cases r with
    | none =>
      simp [cOp, hop] at hc; subst hc
      simp only [evalOp, Option.some.injEq] at h; subst h
      exact (mkm_ok I hT hd (.inl ⟨t, hop⟩)).wp hK
    | some x =>
      cases x with
      | const v =>
        cases v with
        | int k n =>
          simp only [cOp, hop] at hc
          split at hc
          · simp at hc; subst hc
            simp only [evalOp, Option.some.injEq] at h; subst h
            exact (mkm_ok I hT hd (.inr ⟨t, k, n, _, _, hop, ‹_›⟩)).wp hK
          · simp at hc
        | _ => simp [cOp, hop] at hc
      | _ => simp [cOp, hop] at hc
  | makeSlice t l c =>
    simp only [cOp, hop] at hc
    split at hc
    · rename_i el L C hu hl hcx
      split at hc
      · rename_i sz by' z hsz hby hz
        split at hc
        · rename_i zd hzd
          split at hc
          · rename_i hcond
            simp at hc; subst hc
            exact (mks_ok G I hT hd hop hu hl hcx hsz hby hz hzd hcond.1 h).wp hK
          · simp at hc
        · simp at hc
      · simp at hc
    · simp at hc
  | slice t x lo hi mx =>
    cases mx with
    | none =>
      simp only [cOp, hop] at hc
      split at hc
      · rename_i X' Lo Hi hu hx hlo hhi
        simp at hc; subst hc
        exact (slS_ok G I hd hop hu hx hlo hhi h).wp hK
      · rename_i el X' Lo Hi hu hx hlo hhi
        split at hc
        · rename_i sz hsz
          split at hc
          · simp at hc; subst hc
            exact (slL_ok G I hd hop hu hsz hx hlo hhi h).wp hK
          · simp at hc
        · simp at hc
      · simp at hc
    | some m => simp [cOp, hop] at hc
  | fieldAddr s x f =>
    simp only [cOp, hop] at hc
    split at hc
    · rename_i fs X' hu hx
      split at hc
      · rename_i fd hf
        split at hc
        · rename_i sz hsz
          split at hc
          · simp at hc; subst hc
            exact (fa_ok G I hd hop hu hf hsz ‹_› hx h).wp hK
          · simp at hc
        · simp at hc
      · simp at hc
    · simp at hc
  | field s x f =>
    simp only [cOp, hop] at hc
    split at hc
    · rename_i fs X' hu hx
      split at hc
      · rename_i fd hf
        split at hc
        · rename_i sz ag hsz hag
          simp at hc; subst hc
          exact (fld_ok G I hd hop hu hf hsz hag hx h).wp hK
        · simp at hc
      · simp at hc
    · simp at hc
  | indexAddr t x i =>
    simp only [cOp, hop] at hc
    split at hc
    · rename_i el X' I' hu hx hi
      split at hc
      · rename_i sz hsz
        split at hc
        · simp at hc; subst hc
          exact (ia_ok G I hd hop hu hsz hx hi h).wp hK
        · simp at hc
      · simp at hc
    · rename_i n el X' I' hu hx hi
      split at hc
      · rename_i sz hsz
        simp at hc; subst hc
        exact (iaA_ok G I hd hop hu hsz hx hi h).wp hK
      · simp at hc
    · simp at hc
  | index t x i =>
    simp only [cOp, hop] at hc
    split at hc
    · rename_i X' I' hu hx hi
      simp at hc; subst hc
      exact (ixS_ok G I hd hop hu hx hi h).wp hK
    · rename_i n el X' I' hu hx hi
      split at hc
      · rename_i sz ag hsz hag
        simp at hc; subst hc
        exact (ixA_ok G I hd hop hu hsz hag hx hi h).wp hK
      · simp at hc
    · simp at hc
  | lookup t m k ok =>
    simp only [cOp, hop] at hc
    split at hc
    · rename_i kt el M Kk hu hm hk
      split at hc
      · rename_i z hz
        split at hc
        · simp at hc; subst hc
          exact (lk_ok G I hd hop hu ‹_› hz hm hk h).wp hK
        · simp at hc
      · simp at hc
    · simp at hc
  | mapUpdate t m k x =>
    simp only [cOp, hop] at hc
    split at hc
    · rename_i kt el M Kk X' hu hm hk hx
      split at hc
      · simp at hc; subst hc
        exact (mu_ok G I hd (.inl hop) hu ‹_› hm hk hx h).wp hK
      · simp at hc
    · simp at hc
  | insert t m k x =>
    simp only [cOp, hop] at hc
    split at hc
    · rename_i kt el M Kk X' hu hm hk hx
      split at hc
      · simp at hc; subst hc
        exact (mu_ok G I hd (.inr hop) hu ‹_› hm hk hx h).wp hK
      · simp at hc
    · simp at hc
  | range t x =>
    simp only [cOp, hop] at hc
    split at hc
    · rename_i X' hu hx
      simp at hc; subst hc
      exact (rng_ok G I hT hd hop hu hx h).wp hK
    · simp at hc
  | next x b =>
    cases b with
    | true =>
      simp only [cOp, hop] at hc
      obtain ⟨X', hx, rfl⟩ := map_some hc
      exact (nxt_ok G I hd hop hx h).wp hK
    | false => simp [cOp, hop] at hc
  | extract x i =>
    simp only [cOp, hop] at hc
    obtain ⟨X', hx, rfl⟩ := map_some hc
    exact (ext_ok G I hd hop hx h).wp hK
  | call c =>
    obtain ⟨callee, args, ts⟩ := c
    simp only [cOp, hop, cCall] at hc
    split at hc
    · simp at hc
    · rename_i xs hxs
      have hargs := Xs_ok G I hxs
      split at hc
      · rename_i g
        simp only [Option.some.injEq] at hc
        split at hc
        · subst hc
          simp only [evalOp] at h
          exact call_wp G I hd hcall hT hargs h (fun hb => by
            have := run_call_fn (P := P) (a := a) (w := w) (o := o) (f := g) (caps := []) hop rfl hb
            simpa using this) hK
        · subst hc
          simp only [evalOp] at h
          exact call_wp G I hd hcall hT hargs h (fun hb => by
            have := run_call_fn (P := P) (a := a) (w := w) (o := o) (f := g) (caps := []) hop rfl hb
            simpa using this) hK
      · rename_i f _
        obtain ⟨F, hf, rfl⟩ := map_some hc
        have hF := X_ok G I hf
        simp only [evalOp] at h
        split at h
        · rename_i g hval
          rw [hval] at hF
          exact call_wp G I hd hcall hT hargs h (fun hb => by
            have := run_call_fn (P := P) (a := a) (w := w) (o := o) (f := g) (caps := []) hop hF.fn_inv hb
            simpa using this) hK
        · rename_i g cap hval
          rw [hval] at hF
          obtain ⟨vs, hvs, hev⟩ := hF.clo_inv
          have hall : RVvs H B (xs.map (σ.val gl) ++ cap) (args.toList.map a.eval ++ vs) := by
            clear h
            generalize xs.map (σ.val gl) = l1 at hargs ⊢
            generalize args.toList.map a.eval = v1 at hargs ⊢
            induction l1 generalizing v1 with
            | nil => cases hargs; exact hvs
            | cons x l ih => cases hargs with | cons h1 h2 => exact .cons h1 (ih _ h2)
          exact call_wp G I hd hcall hT hall h (fun hb => run_call_fn (P := P) (a := a) (w := w) (o := o) (f := g) hop hev hb) hK
        · simp at h
      · simp at hc
      · rename_i b
        exact (builtin_ok G I hT hd hop hxs hc h).wp hK
  | _ => simp [cOp, hop] at hc

end Go.Ev
end

/- An operation depends on its operands and on the cells that it may look at, and on nothing else. -/
section
namespace Go.Ev

def agree (ts : List Nat) (g g' : Nat → Option Cell) : Prop := ∀ t ∈ ts, g' t = g t

theorem agree.mono {ts us : List Nat} {g g' : Nat → Option Cell} (h : agree ts g g') (hs : ∀ t ∈ us, t ∈ ts) : agree us g g' := fun t ht => h t (hs t ht)

theorem slView_local {g g' : Nat → Option Cell} {v : V} (h : agree v.refs g g') : slView g' v = slView g v := by
  unfold slView
  split <;> try rfl
  rw [h _ (by simp [V.refs])]

theorem mpView_local {g g' : Nat → Option Cell} {v : V} (h : agree v.refs g g') : mpView g' v = mpView g v := by
  unfold mpView
  split <;> try rfl
  rw [h _ (by simp [V.refs])]

theorem eqV_local {g g' : Nat → Option Cell} {tc : TC} {x y : V} (h : agree x.refs g g') : eqV g' tc x y = eqV g tc x y := by
  unfold eqV
  split <;> first | rfl | (rw [h _ (by simp [V.refs])])

theorem binV_local {g g' : Nat → Option Cell} {op : BinOp} {tc : TC} {x y : V} (h : agree x.refs g g') : binV g' op tc x y = binV g op tc x y := by
  unfold binV
  split <;> first | rfl | (rw [eqV_local h])

theorem ldV_local {g g' : Nat → Option Cell} {sz : Nat} {ag : Bool} {x : V} (h : agree x.refs g g') : ldV g' sz ag x = ldV g sz ag x := by
  unfold ldV
  split <;> first | rfl | (rw [h _ (by simp [V.refs])])

theorem stV_local {g g' : Nat → Option Cell} {sz : Nat} {x y : V} (h : agree x.refs g g') : stV g' sz x y = stV g sz x y := by
  unfold stV
  split
  · split <;> first | rfl | (rw [h _ (by simp [V.refs])])
  · rfl

theorem srcOf_local {g g' : Nat → Option Cell} {sz : Nat} {x : V} (h : agree x.refs g g') : srcOf g' sz x = srcOf g sz x := by
  unfold srcOf
  split
  · rfl
  · rw [slView_local h]

theorem srcB_local {g g' : Nat → Option Cell} {x : V} (h : agree x.refs g g') : srcB g' x = srcB g x := by
  unfold srcB
  split
  · rfl
  · exact srcOf_local h

mutual
theorem ftags_refs : ∀ (v : V) (t : Nat), t ∈ v.ftags → t ∈ v.refs
  | .d x, t, h => by simp [V.ftags] at h
  | .nils, t, h => by simp [V.ftags] at h
  | .own u, t, h => by simpa [V.ftags, V.refs] using h
  | .mp u, t, h => by simpa [V.ftags, V.refs] using h
  | .ptr u o p, t, h => by simp [V.ftags] at h
  | .eptr u i s o p, t, h => by simp [V.ftags] at h
  | .sptr u n, t, h => by simp [V.ftags] at h
  | .fref x, t, h => by simp [V.ftags] at h
  | .agg l, t, h => by simp only [V.ftags, V.refs] at h ⊢; exact ftagsL_refs l t h
  | .clo f l, t, h => by simp [V.ftags] at h
  | .tup l, t, h => by simp only [V.ftags, V.refs] at h ⊢; exact ftagsL_refs l t h
  | .skp, t, h => by simp [V.ftags] at h
  | .und, t, h => by simp [V.ftags] at h
theorem ftagsL_refs : ∀ (l : List V) (t : Nat), t ∈ V.ftagsL l → t ∈ V.refsL l
  | [], t, h => by simp [V.ftagsL] at h
  | x :: l, t, h => by
    simp only [V.ftagsL, V.refsL, List.mem_append] at h ⊢
    exact h.imp (ftags_refs x t) (ftagsL_refs l t)
end

mutual
theorem frz_local {g g' : Nat → Option Cell} : ∀ (v : V), agree v.refs g g' → v.frz g' = v.frz g
  | .d x, h => rfl
  | .nils, h => rfl
  | .own u, h => by simp only [V.frz]; rw [h u (by simp [V.refs])]
  | .mp u, h => by simp only [V.frz]; rw [h u (by simp [V.refs])]
  | .ptr u o p, h => rfl
  | .eptr u i s o p, h => rfl
  | .sptr u n, h => rfl
  | .fref x, h => rfl
  | .agg l, h => by simp only [V.frz]; rw [frzL_local l (by simpa [V.refs] using h)]
  | .clo f l, h => rfl
  | .tup l, h => by simp only [V.frz]; rw [frzL_local l (by simpa [V.refs] using h)]
  | .skp, h => rfl
  | .und, h => rfl
theorem frzL_local {g g' : Nat → Option Cell} : ∀ (l : List V), agree (V.refsL l) g g' → V.frzL g' l = V.frzL g l
  | [], h => rfl
  | x :: l, h => by
    simp only [V.frzL]
    rw [frz_local x (fun t ht => h t (by simp [V.refsL, ht])), frzL_local l (fun t ht => h t (by simp [V.refsL, ht]))]
end

mutual
/-- Freezing leaves no references but those that were there. -/
theorem frz_refs {g : Nat → Option Cell} : ∀ (v y : V), v.frz g = some y → ∀ t ∈ y.refs, t ∈ v.refs
  | .d x, y, h => by simp [V.frz] at h; subst h; simp [V.refs]
  | .nils, y, h => by simp [V.frz] at h; subst h; simp [V.refs]
  | .own u, y, h => by simp only [V.frz] at h; split at h <;> simp at h <;> subst h <;> simp [V.refs]
  | .mp u, y, h => by simp only [V.frz] at h; split at h <;> simp at h <;> subst h <;> simp [V.refs]
  | .ptr u o p, y, h => by simp [V.frz] at h; subst h; simp
  | .eptr u i s o p, y, h => by simp [V.frz] at h; subst h; simp
  | .sptr u n, y, h => by simp [V.frz] at h; subst h; simp
  | .fref x, y, h => by simp [V.frz] at h; subst h; simp
  | .agg l, y, h => by
    simp only [V.frz] at h
    split at h
    · rename_i r hr
      simp at h; subst h
      intro t ht
      simp only [V.refs]
      refine frzL_refs l r hr t ?_
      unfold V.mk at ht
      split at ht
      · simp [V.refs] at ht
      · simpa [V.refs] using ht
    · simp at h
  | .clo f l, y, h => by simp [V.frz] at h; subst h; simp
  | .tup l, y, h => by
    simp only [V.frz] at h
    split at h
    · rename_i r hr
      simp at h; subst h
      intro t ht
      simp only [V.refs] at ht ⊢
      exact frzL_refs l r hr t ht
    · simp at h
  | .skp, y, h => by simp [V.frz] at h; subst h; simp
  | .und, y, h => by simp [V.frz] at h; subst h; simp
theorem frzL_refs {g : Nat → Option Cell} : ∀ (l r : List V), V.frzL g l = some r → ∀ t ∈ V.refsL r, t ∈ V.refsL l
  | [], r, h => by simp [V.frzL] at h; subst h; simp
  | x :: l, r, h => by
    simp only [V.frzL] at h
    cases hx : x.frz g with
    | none => simp [hx] at h
    | some y =>
      simp only [hx] at h
      cases hl : V.frzL g l with
      | none => simp [hl] at h
      | some q =>
        simp only [hl, Option.some.injEq] at h; subst h
        intro t ht
        simp only [V.refsL, List.mem_append] at ht ⊢
        exact ht.imp (frz_refs x y hx t) (frzL_refs l q hl t)
end

theorem frzWr_local {g g' : Nat → Option Cell} : ∀ (l : List Nat), agree l g g' → frzWr g' l = frzWr g l
  | [], h => rfl
  | t :: l, h => by simp only [frzWr]; rw [h t (by simp), frzWr_local l (fun u hu => h u (by simp [hu]))]

theorem fzw_local {g g' : Nat → Option Cell} (vs : List V) (h : agree (V.refsL vs) g g') : fzw g' vs = fzw g vs := by
  unfold fzw
  refine frzWr_local _ (fun t ht => h t ?_)
  rw [mem_addNew] at ht
  exact ftagsL_refs vs t (by simpa using ht)

theorem refsAt_local {g g' : Nat → Option Cell} : ∀ (l : List Nat), agree l g g' → refsAt g' l = refsAt g l
  | [], h => rfl
  | t :: l, h => by simp only [refsAt]; rw [h t (by simp), refsAt_local l (fun u hu => h u (by simp [hu]))]

/-- Three steps from 'ts'. -/
def three (g : Nat → Option Cell) (ts : List Nat) : List Nat :=
  let a := addNew [] ts
  let b := addNew a (refsAt g a)
  addNew b (refsAt g b)

theorem reach_eq (g : Nat → Option Cell) (ts : List Nat) : reach g ts = if (refsAt g (three g ts)).all (fun t => (three g ts).contains t) then some (three g ts) else none := rfl

theorem three_local {g g' : Nat → Option Cell} (ts : List Nat) (h : agree (three g ts) g g') : three g' ts = three g ts := by
  have ha : agree (addNew [] ts) g g' := fun t ht => h t (by unfold three; rw [mem_addNew, mem_addNew]; exact .inl (.inl ht))
  have hb : agree (addNew (addNew [] ts) (refsAt g (addNew [] ts))) g g' := fun t ht => h t (by unfold three; rw [mem_addNew]; exact .inl ht)
  unfold three
  dsimp only
  rw [refsAt_local _ ha, refsAt_local _ hb]

theorem mem_refsAt {g : Nat → Option Cell} : ∀ {l : List Nat} {t : Nat}, t ∈ refsAt g l ↔ ∃ u ∈ l, ∃ c, g u = some c ∧ t ∈ c.refs
  | [], t => by simp [refsAt]
  | x :: l, t => by
    simp only [refsAt, List.mem_append, mem_refsAt (l := l), List.mem_cons]
    constructor
    · rintro (h | ⟨u, hu, c, hc, ht⟩)
      · split at h
        · exact ⟨x, .inl rfl, _, ‹_›, h⟩
        · simp at h
      · exact ⟨u, .inr hu, c, hc, ht⟩
    · rintro ⟨u, rfl | hu, c, hc, ht⟩
      · left; rw [hc]; exact ht
      · exact .inr ⟨u, hu, c, hc, ht⟩

/-- Under frozen cells no more is reached, from less. -/
theorem three_over {g : Nat → Option Cell} {fw : List (Nat × Cell)} (hfw : ∀ p ∈ fw, ∃ x, p.2 = .frz x) (hn : (fw.map Prod.fst).Nodup) {ts us : List Nat} (hs : ∀ t ∈ ts, t ∈ us) : ∀ t ∈ three (over fw g) ts, t ∈ three g us := by
  have hr : ∀ {l m : List Nat}, (∀ t ∈ l, t ∈ m) → ∀ t ∈ refsAt (over fw g) l, t ∈ refsAt g m := by
    intro l m hlm t ht
    rw [mem_refsAt] at ht ⊢
    obtain ⟨u, hu, c, hc, htc⟩ := ht
    refine ⟨u, hlm u hu, c, ?_, htc⟩
    unfold over at hc
    cases ha : assoc u fw with
    | some c' =>
      simp only [ha, Option.some.injEq] at hc; subst hc
      obtain ⟨x, hx⟩ := hfw _ ((assoc_of_mem hn).2 ha)
      simp only at hx; subst hx
      simp [Cell.refs] at htc
    | none => simpa only [ha] using hc
  have ha : ∀ t ∈ addNew [] ts, t ∈ addNew [] us := by
    intro t ht; rw [mem_addNew] at ht ⊢; exact .inr (hs t (by simpa using ht))
  have hb : ∀ t ∈ addNew (addNew [] ts) (refsAt (over fw g) (addNew [] ts)), t ∈ addNew (addNew [] us) (refsAt g (addNew [] us)) := by
    intro t ht; rw [mem_addNew] at ht ⊢; exact ht.imp (ha t) (hr ha t)
  intro t ht
  unfold three at ht ⊢
  simp only at ht ⊢
  rw [mem_addNew] at ht ⊢
  exact ht.imp (hb t) (hr hb t)

theorem pass_local {g g' : Nat → Option Cell} {σ : List (Nat × Nat)} : ∀ (l : List Nat), agree l g g' → pass g' σ l = pass g σ l
  | [], h => rfl
  | t :: l, h => by simp only [pass]; rw [h t (by simp), pass_local l (fun u hu => h u (by simp [hu]))]

theorem noVars_local {g g' : Nat → Option Cell} : ∀ (l : List Nat), agree l g g' → noVars g' l = noVars g l
  | [], h => rfl
  | t :: l, h => by simp only [noVars]; rw [h t (by simp), noVars_local l (fun u hu => h u (by simp [hu]))]

theorem callEff_local {g g' : Nat → Option Cell} (call : CallF) (m : Bool) (T : Nat) (f : FuncId) (args : List V) (h : agree (three g (V.refsL args)) g g') :
    callEff call m T f args g' = callEff call m T f args g := by
  have h0 : agree (V.refsL args) g g' := fun t ht => h t (by unfold three; rw [mem_addNew, mem_addNew, mem_addNew]; exact .inl (.inl (.inr ht)))
  unfold callEff
  have e1 : frzM m g' args = frzM m g args := by cases m with
    | true => rfl
    | false => exact frzL_local args h0
  have e2 : fzwM m g' args = fzwM m g args := by cases m with
    | true => rfl
    | false => exact fzw_local args h0
  rw [e1, e2]
  cases has : frzM m g args with
  | none => rfl
  | some as =>
    have hnd : ((fzwM m g args).map Prod.fst).Nodup := by cases m with
      | true => simp [fzwM]
      | false => exact (frzWr_nodup (addNew_nodup _ _ (by simp))).1
    have hfz : ∀ p ∈ fzwM m g args, ∃ x, p.2 = .frz x := by cases m with
      | true => simp [fzwM]
      | false => exact fzw_frz
    have hsub : ∀ t ∈ V.refsL as, t ∈ V.refsL args := by cases m with
      | true => simp only [frzM, Option.some.injEq] at has; subst has; exact fun t ht => ht
      | false => exact frzL_refs args as has
    have hthree : agree (three (over (fzwM m g args) g) (V.refsL as)) (over (fzwM m g args) g) (over (fzwM m g args) g') := by
      intro t ht
      have := h t (three_over hfz hnd hsub t ht)
      unfold over
      rw [this]
    have hreach : reach (over (fzwM m g args) g') (V.refsL as) = reach (over (fzwM m g args) g) (V.refsL as) := by
      rw [reach_eq, reach_eq, three_local _ hthree, refsAt_local _ hthree]
    simp only [hreach]
    cases hts : reach (over (fzwM m g args) g) (V.refsL as) with
    | none => rfl
    | some ts =>
      have hts' : ts = three (over (fzwM m g args) g) (V.refsL as) := by
        rw [reach_eq] at hts
        split at hts
        · simpa using hts.symm
        · simp at hts
      subst hts'
      simp only [pass_local _ hthree, noVars_local _ hthree]

theorem refsL_mem {l : List V} {v : V} (h : v ∈ l) : ∀ t ∈ v.refs, t ∈ V.refsL l := by
  induction l with
  | nil => simp at h
  | cons x l ih =>
    intro t ht
    simp only [V.refsL, List.mem_append]
    simp only [List.mem_cons] at h
    rcases h with rfl | h
    · exact .inl ht
    · exact .inr (ih h t ht)

theorem refsL_append (l m : List V) : V.refsL (l ++ m) = V.refsL l ++ V.refsL m := by
  induction l with
  | nil => rfl
  | cons x l ih => simp [V.refsL, ih]

theorem three_mono {g : Nat → Option Cell} {ts us : List Nat} (hs : ∀ t ∈ ts, t ∈ us) : ∀ t ∈ three g ts, t ∈ three g us := by
  have := three_over (g := g) (fw := []) (by simp) (by simp) hs
  have he : over [] g = g := by funext t; simp [over, assoc]
  rwa [he] at this

theorem mem_three {g : Nat → Option Cell} {ts : List Nat} {t : Nat} (h : t ∈ ts) : t ∈ three g ts := by
  unfold three; rw [mem_addNew, mem_addNew, mem_addNew]; exact .inl (.inl (.inr h))

/-- What an operation gives depends on the operands and on the cells that it may look at. -/
theorem evalOp_local {g g' : Nat → Option Cell} {val val' : X → V} (call : CallF) (T : Nat) (op : SOp) (hv : ∀ x ∈ op.xs, val' x = val x) (h : agree (three g (V.refsL (op.xs.map val))) g g') :
    evalOp call T op val' g' = evalOp call T op val g := by
  have ha : ∀ x ∈ op.xs, agree (val x).refs g g' := fun x hx t ht => h t (mem_three (refsL_mem (List.mem_map.2 ⟨x, hx, rfl⟩) t ht))
  cases op with
  | mov x => simp only [evalOp]; rw [hv x (by simp [SOp.xs])]
  | nilrow e sz => rfl
  | pick c x y => simp only [evalOp]; rw [hv c (by simp [SOp.xs]), hv x (by simp [SOp.xs]), hv y (by simp [SOp.xs])]
  | alloc e z => rfl
  | box e x => simp only [evalOp]; rw [hv x (by simp [SOp.xs])]
  | build zs ps =>
    simp only [evalOp]
    have : ps.map (fun (i, x) => (i, val' x)) = ps.map (fun (i, x) => (i, val x)) := by
      apply List.map_congr_left
      rintro ⟨i, x⟩ hx
      simp only [Prod.mk.injEq, true_and]
      exact hv x (by simp only [SOp.xs]; exact List.mem_map.2 ⟨_, hx, rfl⟩)
    rw [this]
  | bsl e sz n ps =>
    simp only [evalOp]
    have : ps.map val' = ps.map val := List.map_congr_left (fun x hx => hv x (by simpa [SOp.xs] using hx))
    have hr : agree (V.refsL (ps.map val)) g g' := fun t ht => h t (mem_three (by simpa [SOp.xs] using ht))
    rw [this, frzL_local _ hr, fzw_local _ hr]
  | ld sz ag x => simp only [evalOp]; rw [hv x (by simp [SOp.xs]), ldV_local (ha x (by simp [SOp.xs]))]
  | st sz x y => simp only [evalOp]; rw [hv x (by simp [SOp.xs]), hv y (by simp [SOp.xs]), stV_local (ha x (by simp [SOp.xs]))]
  | nilc x => simp only [evalOp]; rw [hv x (by simp [SOp.xs])]
  | bin b tc x y => simp only [evalOp]; rw [hv x (by simp [SOp.xs]), hv y (by simp [SOp.xs]), binV_local (ha x (by simp [SOp.xs]))]
  | un u x => simp only [evalOp]; rw [hv x (by simp [SOp.xs])]
  | cnvI k x => simp only [evalOp]; rw [hv x (by simp [SOp.xs])]
  | cnvSB x => simp only [evalOp]; rw [hv x (by simp [SOp.xs])]
  | cnvBS x => simp only [evalOp]; rw [hv x (by simp [SOp.xs]), srcB_local (ha x (by simp [SOp.xs]))]
  | eqS b ks x y => simp only [evalOp]; rw [hv x (by simp [SOp.xs]), hv y (by simp [SOp.xs])]
  | cnvIS x => simp only [evalOp]; rw [hv x (by simp [SOp.xs])]
  | cnvS x => simp only [evalOp]; rw [hv x (by simp [SOp.xs])]
  | rngS x => simp only [evalOp]; rw [hv x (by simp [SOp.xs])]
  | nxtS x =>
    have hax := ha x (by simp [SOp.xs])
    simp only [evalOp]; rw [hv x (by simp [SOp.xs])]
    cases hq : val x with
    | ptr t o p =>
      have ht : g' t = g t := hax t (by rw [hq]; simp [V.refs])
      cases o with
      | zero => simp only [ht]
      | succ o => rfl
    | _ => rfl
  | mkf f cap =>
    simp only [evalOp]
    have : cap.map val' = cap.map val := List.map_congr_left (fun x hx => hv x (by simpa [SOp.xs] using hx))
    cases cap with
    | nil => rfl
    | cons c cs => simp only [this]
  | mkm => rfl
  | mks e sz b z x y => simp only [evalOp]; rw [hv x (by simp [SOp.xs]), hv y (by simp [SOp.xs])]
  | slS x lo hi =>
    simp only [evalOp]
    have h1 : ∀ d, optIdx val' lo d = optIdx val lo d := by
      intro d; cases lo with
      | none => rfl
      | some y => simp only [optIdx]; rw [hv y (by simp [SOp.xs])]
    have h2 : ∀ d, optIdx val' hi d = optIdx val hi d := by
      intro d; cases hi with
      | none => rfl
      | some y => simp only [optIdx]; rw [hv y (by simp [SOp.xs])]
    rw [hv x (by simp [SOp.xs])]
    simp only [h1, h2]
  | slL sz x lo hi =>
    simp only [evalOp]
    have h1 : ∀ d, optIdx val' lo d = optIdx val lo d := by
      intro d; cases lo with
      | none => rfl
      | some y => simp only [optIdx]; rw [hv y (by simp [SOp.xs])]
    have h2 : ∀ d, optIdx val' hi d = optIdx val hi d := by
      intro d; cases hi with
      | none => rfl
      | some y => simp only [optIdx]; rw [hv y (by simp [SOp.xs])]
    rw [hv x (by simp [SOp.xs]), slView_local (ha x (by simp [SOp.xs]))]
    simp only [h1, h2]
  | fa x i off => simp only [evalOp]; rw [hv x (by simp [SOp.xs])]
  | fld x i off sz ag => simp only [evalOp]; rw [hv x (by simp [SOp.xs])]
  | ia sz x y => simp only [evalOp]; rw [hv x (by simp [SOp.xs]), hv y (by simp [SOp.xs]), slView_local (ha x (by simp [SOp.xs]))]
  | iaA n sz x y => simp only [evalOp]; rw [hv x (by simp [SOp.xs]), hv y (by simp [SOp.xs])]
  | ixS x y => simp only [evalOp]; rw [hv x (by simp [SOp.xs]), hv y (by simp [SOp.xs])]
  | ixA n sz ag x y => simp only [evalOp]; rw [hv x (by simp [SOp.xs]), hv y (by simp [SOp.xs])]
  | lk kc z x y ok => simp only [evalOp]; rw [hv x (by simp [SOp.xs]), hv y (by simp [SOp.xs]), mpView_local (ha x (by simp [SOp.xs]))]
  | mu kc m k x =>
    simp only [evalOp]
    have hx := ha x (by simp [SOp.xs])
    have hm := ha m (by simp [SOp.xs])
    rw [hv x (by simp [SOp.xs]), hv k (by simp [SOp.xs]), hv m (by simp [SOp.xs]), frzL_local [val x] (by simpa [V.refsL] using hx), fzw_local [val x] (by simpa [V.refsL] using hx)]
    cases hmv : val m <;> simp only []
    rw [hm _ (by rw [hmv]; simp [V.refs])]
  | ext x i => simp only [evalOp]; rw [hv x (by simp [SOp.xs])]
  | call f args =>
    simp only [evalOp]
    have : args.map val' = args.map val := List.map_congr_left (fun x hx => hv x (by simpa [SOp.xs] using hx))
    rw [this]
    exact callEff_local call false T f _ (by simpa [SOp.xs] using h)
  | callM f args =>
    simp only [evalOp]
    have : args.map val' = args.map val := List.map_congr_left (fun x hx => hv x (by simpa [SOp.xs] using hx))
    rw [this]
    exact callEff_local call true T f _ (by simpa [SOp.xs] using h)
  | callv f args =>
    simp only [evalOp]
    have : args.map val' = args.map val := List.map_congr_left (fun x hx => hv x (by simp [SOp.xs, hx]))
    rw [this, hv f (by simp [SOp.xs])]
    have hsub : ∀ t ∈ V.refsL (args.map val), t ∈ V.refsL ((SOp.callv f args).xs.map val) := by
      intro t ht; simp only [SOp.xs, List.map_cons, V.refsL, List.mem_append]; exact .inr ht
    split
    · exact callEff_local call false T _ _ (h.mono (three_mono hsub))
    · rename_i gg cap hval
      refine callEff_local call false T _ _ (h.mono (three_mono ?_))
      intro t ht
      rw [refsL_append, List.mem_append] at ht
      rcases ht with ht | ht
      · exact hsub t ht
      · simp only [SOp.xs, List.map_cons, V.refsL, List.mem_append, hval, V.refs]; exact .inl ht
    · rfl
  | app e sz b x y =>
    simp only [evalOp]
    rw [hv x (by simp [SOp.xs]), hv y (by simp [SOp.xs]), srcOf_local (ha y (by simp [SOp.xs])), slView_local (ha x (by simp [SOp.xs]))]
  | len k x =>
    simp only [evalOp]
    rw [hv x (by simp [SOp.xs]), slView_local (ha x (by simp [SOp.xs])), mpView_local (ha x (by simp [SOp.xs]))]
  | cst v => rfl
  | mxn mx xs =>
    simp only [evalOp]
    have : xs.map val' = xs.map val := List.map_congr_left (fun x hx => hv x (by simpa [SOp.xs] using hx))
    rw [this]

end Go.Ev
end

/- Two operations that do not meet may be exchanged. -/
section
namespace Go.Ev

/-- The same slots, the same cells. -/
def SEq (σ σ' : St) : Prop := (∀ s, σ'.env.get s = σ.env.get s) ∧ (∀ t, σ'.get t = σ.get t)

theorem SEq.refl (σ : St) : SEq σ σ := ⟨fun _ => rfl, fun _ => rfl⟩
theorem SEq.trans {a b c : St} (h : SEq a b) (h' : SEq b c) : SEq a c := ⟨fun s => (h'.1 s).trans (h.1 s), fun t => (h'.2 t).trans (h.2 t)⟩
theorem SEq.symm {a b : St} (h : SEq a b) : SEq b a := ⟨fun s => (h.1 s).symm, fun t => (h.2 t).symm⟩

theorem SEq.val {σ σ' : St} (h : SEq σ σ') (gl : Nat → Option D) : σ'.val gl = σ.val gl := by
  funext x; cases x with
  | t n => exact h.1 n
  | c v => rfl
  | g n => rfl

theorem SEq.get {σ σ' : St} (h : SEq σ σ') : σ'.get = σ.get := funext h.2

theorem SEq.wants {σ σ' : St} (h : SEq σ σ') (g : Option (Nat × Bool)) : Ev.wants σ' g = Ev.wants σ g := by
  unfold Ev.wants; split
  · rfl
  · rw [h.1]

theorem SEq.stepE {σ σ' : St} (h : SEq σ σ') (gl : Nat → Option D) (call : CallF) (T : Nat) (o : SOpr) : Ev.stepE gl call T o σ' = Ev.stepE gl call T o σ := by
  unfold Ev.stepE; rw [h.wants, h.val, h.get]

theorem SEq.infoOf {σ σ' : St} (h : SEq σ σ') (gl : Nat → Option D) (o : SOpr) (e : Eff) : Ev.infoOf gl o σ' e = Ev.infoOf gl o σ e := by
  unfold Ev.infoOf Ev.readTags; rw [h.val, h.get]

theorem setAll_congr : ∀ (l : List (Nat × Cell)) {e e' : Cells}, (∀ t, assoc t e' = assoc t e) → ∀ t, assoc t (Cells.setAll e' l) = assoc t (Cells.setAll e l)
  | [], _, _, h => h
  | (u, c) :: l, e, e', h => setAll_congr l (fun t => by rw [Cells.get_set, Cells.get_set, h])

theorem killC_get (ks : List Nat) (e : Cells) (t : Nat) : assoc t (killC ks e) = if ks = [] then assoc t e else (assoc t e).map (Cell.kill ks) := by
  cases ks with
  | nil => rfl
  | cons k ks => simp [killC, Cells.get_kill]

theorem killE_get (ks : List Nat) (e : Env) (s : Nat) : (killE ks e).get s = if ks = [] then e.get s else (e.get s).kill ks := by
  cases ks with
  | nil => rfl
  | cons k ks => simp [killE, Env.get_kill]

mutual
theorem kill_id (ks : List Nat) : ∀ (v : V), (∀ t ∈ v.refs, t ∉ ks) → v.kill ks = v
  | .d x, h => rfl
  | .nils, h => rfl
  | .own t, h => by simp only [V.kill]; rw [if_neg]; simpa using h t (by simp [V.refs])
  | .mp t, h => by simp only [V.kill]; rw [if_neg]; simpa using h t (by simp [V.refs])
  | .ptr t o p, h => by simp only [V.kill]; rw [if_neg]; simpa using h t (by simp [V.refs])
  | .eptr t i s o p, h => by simp only [V.kill]; rw [if_neg]; simpa using h t (by simp [V.refs])
  | .sptr t n, h => by simp only [V.kill]; rw [if_neg]; simpa using h t (by simp [V.refs])
  | .fref x, h => rfl
  | .agg l, h => by simp only [V.kill]; rw [killL_id ks l (by simpa [V.refs] using h)]
  | .clo f l, h => by simp only [V.kill]; rw [killL_id ks l (by simpa [V.refs] using h)]
  | .tup l, h => by simp only [V.kill]; rw [killL_id ks l (by simpa [V.refs] using h)]
  | .skp, h => rfl
  | .und, h => rfl
theorem killL_id (ks : List Nat) : ∀ (v : List V), (∀ t ∈ V.refsL v, t ∉ ks) → V.killL ks v = v
  | [], h => rfl
  | x :: l, h => by
    simp only [V.killL]
    rw [kill_id ks x (fun t ht => h t (by simp [V.refsL, ht])), killL_id ks l (fun t ht => h t (by simp [V.refsL, ht]))]
end

mutual
theorem kill_whole (ks : List Nat) : ∀ (v : V), (v.kill ks).whole = true → v.kill ks = v
  | .d x, h => rfl
  | .nils, h => rfl
  | .own t, h => by simp only [V.kill] at h ⊢; split at h; · simp [V.whole] at h
                    rw [if_neg ‹_›]
  | .mp t, h => by simp only [V.kill] at h ⊢; split at h; · simp [V.whole] at h
                   rw [if_neg ‹_›]
  | .ptr t o p, h => by simp only [V.kill] at h ⊢; split at h; · simp [V.whole] at h
                        rw [if_neg ‹_›]
  | .eptr t i s o p, h => by simp only [V.kill] at h ⊢; split at h; · simp [V.whole] at h
                             rw [if_neg ‹_›]
  | .sptr t n, h => by simp only [V.kill] at h ⊢; split at h; · simp [V.whole] at h
                       rw [if_neg ‹_›]
  | .fref x, h => rfl
  | .agg l, h => by simp only [V.kill, V.whole] at h ⊢; rw [killL_whole ks l h]
  | .clo f l, h => by simp only [V.kill, V.whole] at h ⊢; rw [killL_whole ks l h]
  | .tup l, h => by simp only [V.kill, V.whole] at h ⊢; rw [killL_whole ks l h]
  | .skp, h => rfl
  | .und, h => rfl
theorem killL_whole (ks : List Nat) : ∀ (v : List V), V.wholeL (V.killL ks v) = true → V.killL ks v = v
  | [], h => rfl
  | x :: l, h => by
    simp only [V.killL, V.wholeL, Bool.and_eq_true] at h ⊢
    rw [kill_whole ks x h.1, killL_whole ks l h.2]
end

mutual
theorem kill_comm (a b : List Nat) : ∀ (v : V), (v.kill a).kill b = (v.kill b).kill a
  | .d x => rfl
  | .nils => rfl
  | .own t => by simp only [V.kill]; split <;> split <;> simp_all [V.kill]
  | .mp t => by simp only [V.kill]; split <;> split <;> simp_all [V.kill]
  | .ptr t o p => by simp only [V.kill]; split <;> split <;> simp_all [V.kill]
  | .eptr t i s o p => by simp only [V.kill]; split <;> split <;> simp_all [V.kill]
  | .sptr t n => by simp only [V.kill]; split <;> split <;> simp_all [V.kill]
  | .fref x => rfl
  | .agg l => by simp only [V.kill]; rw [killL_comm a b l]
  | .clo f l => by simp only [V.kill]; rw [killL_comm a b l]
  | .tup l => by simp only [V.kill]; rw [killL_comm a b l]
  | .skp => rfl
  | .und => rfl
theorem killL_comm (a b : List Nat) : ∀ (v : List V), V.killL b (V.killL a v) = V.killL a (V.killL b v)
  | [] => rfl
  | x :: l => by simp only [V.killL]; rw [kill_comm a b x, killL_comm a b l]
end

theorem Cell.kill_comm (a b : List Nat) (c : Cell) : (c.kill a).kill b = (c.kill b).kill a := by
  cases c <;> simp [Cell.kill, Ev.kill_comm a b]

theorem Cell.kill_id (ks : List Nat) (c : Cell) (h : ∀ t ∈ c.refs, t ∉ ks) : c.kill ks = c := by
  cases c <;> simp [Cell.kill]; exact Ev.kill_id ks _ h

theorem Cell.kill_whole (ks : List Nat) (c : Cell) (h : (c.kill ks).whole = true) : c.kill ks = c := by
  cases c <;> simp [Cell.kill]; exact Ev.kill_whole ks _ h

theorem noDup_ok : ∀ {l : List Nat}, noDup l = true → l.Nodup
  | [], _ => by simp
  | t :: l, h => by simp only [noDup, Bool.and_eq_true, Bool.not_eq_true', List.contains_eq_mem, decide_eq_false_iff_not] at h; exact List.nodup_cons.2 ⟨h.1, noDup_ok h.2⟩

theorem disj_ok {a b : List Nat} (h : disj a b = true) : ∀ t ∈ a, t ∉ b := by
  intro t ht
  have := List.all_eq_true.1 h t ht
  simpa using this

theorem mem_wrRefs : ∀ {l : List (Nat × Cell)} {t : Nat} {c : Cell}, (t, c) ∈ l → ∀ u ∈ c.refs, u ∈ wrRefs l
  | [], t, c, h, u, hu => by simp at h
  | (s, d) :: l, t, c, h, u, hu => by
    simp only [wrRefs, List.mem_append]
    simp only [List.mem_cons, Prod.mk.injEq] at h
    rcases h with ⟨_, rfl⟩ | h
    · exact .inl hu
    · exact .inr (mem_wrRefs h u hu)

theorem wholeAt_ok {g : Nat → Option Cell} : ∀ {l : List Nat}, wholeAt g l = true → ∀ t ∈ l, ∀ c, g t = some c → c.whole = true
  | [], _, t, ht => by simp at ht
  | u :: l, h, t, ht => by
    simp only [wholeAt, Bool.and_eq_true] at h
    simp only [List.mem_cons] at ht
    rcases ht with rfl | ht
    · intro c hc; rw [hc] at h; exact h.1
    · exact wholeAt_ok h.2 t ht

/-- Slots behind an effect. -/
theorem put_env (σ : St) (dst : Option Nat) (e : Eff) (s : Nat) : (σ.put dst e).env.get s = if dst = some s then e.res else (if e.kill = [] then σ.env.get s else (σ.env.get s).kill e.kill) := by
  cases dst with
  | none => simp [St.put, killE_get]
  | some d => simp only [St.put, Env.get_set, killE_get, Option.some.injEq]

/-- Cells behind an effect. -/
theorem put_cells (σ : St) (dst : Option Nat) (e : Eff) (hn : (e.wr.map Prod.fst).Nodup) (t : Nat) :
    (∀ c, (t, c) ∈ e.wr → (σ.put dst e).get t = some c) ∧ (t ∉ e.wr.map Prod.fst → (σ.put dst e).get t = if e.kill = [] then σ.get t else (σ.get t).map (Cell.kill e.kill)) := by
  obtain ⟨h1, h2⟩ := Cells.get_setAll e.wr (killC e.kill σ.cells) t hn
  exact ⟨h1, fun h => (h2 h).trans (killC_get _ _ _)⟩

theorem SEq.put {σ σ' : St} (h : SEq σ σ') (dst : Option Nat) (e : Eff) : SEq (σ.put dst e) (σ'.put dst e) := by
  refine ⟨fun s => by rw [put_env, put_env, h.1], fun t => ?_⟩
  show assoc t ((killC e.kill σ'.cells).setAll e.wr) = assoc t ((killC e.kill σ.cells).setAll e.wr)
  refine setAll_congr _ (fun u => ?_) t
  rw [killC_get, killC_get]
  have := h.2 u
  unfold St.get at this
  rw [this]

theorem info_ok {gl : Nat → Option D} {o : SOpr} {σ : St} {e : Eff} (h : (infoOf gl o σ e).ok = true) :
    V.wholeL (o.op.xs.map (σ.val gl)) = true ∧ wholeAt σ.get (readTags gl o σ) = true ∧ (∀ t ∈ refsAt σ.get (readTags gl o σ), t ∈ readTags gl o σ) ∧ (e.wr.map Prod.fst).Nodup := by
  simp only [infoOf, Bool.and_eq_true] at h
  exact ⟨h.1.1.1, h.1.1.2, fun t ht => by simpa using List.all_eq_true.1 h.1.2 t ht, noDup_ok h.2⟩

theorem wholeL_mem : ∀ {l : List V} {v : V}, V.wholeL l = true → v ∈ l → v.whole = true
  | [], v, _, h => by simp at h
  | x :: l, v, hw, h => by
    simp only [V.wholeL, Bool.and_eq_true] at hw
    simp only [List.mem_cons] at h
    rcases h with rfl | h
    · exact hw.1
    · exact wholeL_mem hw.2 h

theorem reads_of_xs {o : SOpr} {x : X} {n : Nat} (h : x ∈ o.op.xs) (hx : x = .t n) : n ∈ o.reads := by
  unfold SOpr.reads
  rw [List.mem_append]
  exact .inl (List.mem_flatMap.2 ⟨x, h, by subst hx; simp [X.slots]⟩)

/-- An operation sees the same where its operands and the cells that it may look at are the same. -/
theorem stepE_local {gl : Nat → Option D} {call : CallF} {T : Nat} {o : SOpr} {σ σ' : St} (hs : ∀ s ∈ o.reads, σ'.env.get s = σ.env.get s) (hc : agree (readTags gl o σ) σ.get σ'.get) :
    stepE gl call T o σ' = stepE gl call T o σ ∧ readTags gl o σ' = readTags gl o σ ∧ (o.op.xs.map (σ'.val gl)) = o.op.xs.map (σ.val gl) := by
  have hv : ∀ x ∈ o.op.xs, σ'.val gl x = σ.val gl x := by
    intro x hx
    cases x with
    | t n => exact hs n (reads_of_xs hx rfl)
    | c v => rfl
    | g n => rfl
  have hl : o.op.xs.map (σ'.val gl) = o.op.xs.map (σ.val gl) := List.map_congr_left hv
  have hw : wants σ' o.guard = wants σ o.guard := by
    unfold wants
    cases hg : o.guard with
    | none => rfl
    | some p =>
      obtain ⟨s, b⟩ := p
      simp only
      rw [hs s (by unfold SOpr.reads; rw [hg]; simp)]
  refine ⟨?_, ?_, hl⟩
  · unfold stepE
    rw [hw]
    split <;> first | rfl | exact evalOp_local call T o.op hv hc
  · show three σ'.get (V.refsL (o.op.xs.map (σ'.val gl))) = three σ.get (V.refsL (o.op.xs.map (σ.val gl)))
    rw [hl]; exact three_local _ hc

theorem kill_nil (v : V) : v.kill [] = v := kill_id [] v (by simp)
theorem Cell.kill_nil (c : Cell) : c.kill [] = c := Cell.kill_id [] c (by simp)

theorem put_env' (σ : St) (dst : Option Nat) (e : Eff) (s : Nat) : (σ.put dst e).env.get s = if dst = some s then e.res else (σ.env.get s).kill e.kill := by
  rw [put_env]
  split
  · rfl
  · split
    · rename_i h; rw [h, kill_nil]
    · rfl

theorem put_cell_in (σ : St) (dst : Option Nat) (e : Eff) (hn : (e.wr.map Prod.fst).Nodup) {t : Nat} {c : Cell} (h : (t, c) ∈ e.wr) : (σ.put dst e).get t = some c :=
  (put_cells σ dst e hn t).1 c h

theorem put_cell_out (σ : St) (dst : Option Nat) (e : Eff) (hn : (e.wr.map Prod.fst).Nodup) {t : Nat} (h : t ∉ e.wr.map Prod.fst) : (σ.put dst e).get t = (σ.get t).map (Cell.kill e.kill) := by
  rw [(put_cells σ dst e hn t).2 h]
  split
  · rename_i h'; rw [h']
    cases σ.get t with
    | none => rfl
    | some c => simp [Cell.kill_nil]
  · rfl

theorem wholeAt_local {g g' : Nat → Option Cell} : ∀ (l : List Nat), agree l g g' → wholeAt g' l = wholeAt g l
  | [], h => rfl
  | t :: l, h => by simp only [wholeAt]; rw [h t (by simp), wholeAt_local l (fun u hu => h u (by simp [hu]))]

theorem reads_mem {o : SOpr} {s : Nat} (h : s ∈ o.reads) : (∃ x ∈ o.op.xs, x = .t s) ∨ (∃ b, o.guard = some (s, b)) := by
  unfold SOpr.reads at h
  rw [List.mem_append] at h
  rcases h with h | h
  · rw [List.mem_flatMap] at h
    obtain ⟨x, hx, hs⟩ := h
    refine .inl ⟨x, hx, ?_⟩
    cases x <;> simp [X.slots] at hs
    subst hs; rfl
  · split at h
    · rename_i u b hg
      simp at h; subst h
      exact .inr ⟨b, hg⟩
    · simp at h

/-- A guard that was read holds nothing that could be forgotten. -/
theorem wants_kill {σ : St} {s : Nat} {b : Bool} {g : Option (Nat × Bool)} {v : V} {ks : List Nat} (hw : wants σ g ≠ none) (hg : g = some (s, b)) (he : σ.env.get s = v) : v.refs = [] ∧ v.whole = true := by
  subst hg
  simp only [wants, he] at hw
  split at hw <;> simp_all [V.refs, V.whole]

theorem stepE_wants {gl : Nat → Option D} {call : CallF} {T : Nat} {o : SOpr} {σ : St} {e : Eff} (h : stepE gl call T o σ = some e) : wants σ o.guard ≠ none := by
  unfold stepE at h
  intro h'
  simp [h'] at h

theorem infoOf_local {gl : Nat → Option D} {o : SOpr} {σ σ' : St} {e : Eff} (hr : readTags gl o σ' = readTags gl o σ) (hv : (o.op.xs.map (σ'.val gl)) = o.op.xs.map (σ.val gl)) (hc : agree (readTags gl o σ) σ.get σ'.get) :
    infoOf gl o σ' e = infoOf gl o σ e := by
  unfold infoOf
  rw [hr, hv, wholeAt_local _ hc, refsAt_local _ hc]

/-- Two operations that do not meet: the second may be carried out first. -/
theorem swap {gl : Nat → Option D} {call : CallF} {Tx Ty : Nat} {x y : SOpr} {σ : St} {ex ey : Eff}
    (hx : stepE gl call Tx x σ = some ex) (hy : stepE gl call Ty y (σ.put x.dst ex) = some ey) (hap : x.apart y = true)
    (hi : (infoOf gl x σ ex).indep (infoOf gl y (σ.put x.dst ex) ey) = true) :
    stepE gl call Ty y σ = some ey ∧ infoOf gl y σ ey = infoOf gl y (σ.put x.dst ex) ey ∧
    stepE gl call Tx x (σ.put y.dst ey) = some ex ∧ infoOf gl x (σ.put y.dst ey) ex = infoOf gl x σ ex ∧
    SEq ((σ.put x.dst ex).put y.dst ey) ((σ.put y.dst ey).put x.dst ex) := by
  simp only [Info.indep, Bool.and_eq_true] at hi
  obtain ⟨⟨⟨⟨ox, oy⟩, d1⟩, d2⟩, d3⟩ := hi
  have d1 := disj_ok d1; have d2 := disj_ok d2; have d3 := disj_ok d3
  obtain ⟨wx1, wx2, wx3, wx4⟩ := info_ok ox
  obtain ⟨wy1, wy2, wy3, wy4⟩ := info_ok oy
  simp only [SOpr.apart, Bool.and_eq_true] at hap
  have a1 : ∀ s ∈ y.reads, x.dst ≠ some s := by
    intro s hs e
    have := hap.1
    rw [e] at this
    simp only [Bool.and_eq_true, Bool.not_eq_true', List.contains_eq_mem, decide_eq_false_iff_not] at this
    exact this.1 hs
  have a2 : ∀ d, x.dst = some d → y.dst ≠ some d := by
    intro d e
    have := hap.1
    rw [e] at this
    simp only [Bool.and_eq_true, bne_iff_ne, ne_eq] at this
    exact this.2
  have a3 : ∀ s ∈ x.reads, y.dst ≠ some s := by
    intro s hs e
    have := hap.2
    rw [e] at this
    simp only [Bool.not_eq_true', List.contains_eq_mem, decide_eq_false_iff_not] at this
    exact this hs
  have hσy := stepE_wants hy
  have hσx := stepE_wants hx
  -- y sees in 'σ' what it sees behind x
  have hys : ∀ s ∈ y.reads, σ.env.get s = (σ.put x.dst ex).env.get s := by
    intro s hs
    have hp : (σ.put x.dst ex).env.get s = (σ.env.get s).kill ex.kill := by rw [put_env', if_neg (a1 s hs)]
    rw [hp]
    refine (kill_whole _ _ ?_).symm
    rw [← hp]
    rcases reads_mem hs with ⟨z, hz, rfl⟩ | ⟨b, hg⟩
    · exact wholeL_mem wy1 (List.mem_map.2 ⟨_, hz, rfl⟩)
    · exact (wants_kill (ks := []) hσy hg rfl).2
  have hyc : agree (readTags gl y (σ.put x.dst ex)) (σ.put x.dst ex).get σ.get := by
    intro t ht
    have hout : t ∉ ex.wr.map Prod.fst := fun h => d1 t (by simp [infoOf, wrTags, h]) (by simp only [infoOf, List.mem_append]; exact .inl ht)
    have hp := put_cell_out σ x.dst ex wx4 hout
    rw [hp]
    cases hg : σ.get t with
    | none => rfl
    | some c =>
      simp only [Option.map_some, Option.some.injEq]
      refine (Cell.kill_whole _ _ ?_).symm
      exact wholeAt_ok wy2 t ht _ (by rw [hp, hg]; rfl)
  obtain ⟨l1, l2, l3⟩ := stepE_local (call := call) (T := Ty) hys hyc
  have hxs : ∀ s ∈ x.reads, (σ.put y.dst ey).env.get s = σ.env.get s := by
    intro s hs
    rw [put_env', if_neg (a3 s hs)]
    refine kill_id _ _ ?_
    rcases reads_mem hs with ⟨z, hz, rfl⟩ | ⟨b, hg⟩
    · intro t ht hk
      refine d3 t (by simp [infoOf, wrTags, hk]) ?_
      simp only [infoOf, List.mem_append]
      exact .inl (mem_three (refsL_mem (List.mem_map.2 ⟨_, hz, rfl⟩) t ht))
    · rw [(wants_kill (ks := []) hσx hg rfl).1]; simp
  have hxc : agree (readTags gl x σ) σ.get (σ.put y.dst ey).get := by
    intro t ht
    have hout : t ∉ ey.wr.map Prod.fst := fun h => d3 t (by simp [infoOf, wrTags, h]) (by simp only [infoOf, List.mem_append]; exact .inl ht)
    rw [put_cell_out σ y.dst ey wy4 hout]
    cases hg : σ.get t with
    | none => rfl
    | some c =>
      simp only [Option.map_some, Option.some.injEq]
      refine Cell.kill_id _ _ ?_
      intro u hu hk
      refine d3 u (by simp [infoOf, wrTags, hk]) ?_
      simp only [infoOf, List.mem_append]
      exact .inl (wx3 u (mem_refsAt.2 ⟨t, ht, c, hg, hu⟩))
  obtain ⟨m1, m2, m3⟩ := stepE_local (call := call) (T := Tx) hxs hxc
  refine ⟨l1.trans hy, infoOf_local l2 l3 hyc, m1.trans hx, infoOf_local m2 m3 hxc, fun s => ?_, fun t => ?_⟩
  · simp only [put_env']
    by_cases hyd : y.dst = some s
    · have hxd : x.dst ≠ some s := fun h => a2 s h hyd
      rw [if_neg hxd, if_pos hyd, if_pos hyd]
      refine kill_id _ _ ?_
      intro u hu hk
      exact d1 u (by simp [infoOf, wrTags, hk]) (by simp [infoOf, hu])
    · by_cases hxd : x.dst = some s
      · rw [if_pos hxd, if_neg hyd, if_pos hxd]
        refine (kill_id _ _ ?_).symm
        intro u hu hk
        exact d3 u (by simp [infoOf, wrTags, hk]) (by simp [infoOf, hu])
      · rw [if_neg hxd, if_neg hyd, if_neg hyd, if_neg hxd, kill_comm]
  · by_cases hyt : t ∈ ey.wr.map Prod.fst
    · obtain ⟨⟨t', c⟩, hm, rfl⟩ := List.mem_map.1 hyt
      have hxt : t' ∉ ex.wr.map Prod.fst := fun h => d2 t' (by simp only [infoOf, wrTags, List.mem_append]; exact .inl h) (by simp only [infoOf, wrTags, List.mem_append]; exact .inl hyt)
      simp only
      rw [put_cell_in _ _ _ wy4 hm, put_cell_out _ _ _ wx4 hxt, put_cell_in _ _ _ wy4 hm]
      simp only [Option.map_some, Option.some.injEq]
      refine Cell.kill_id _ _ ?_
      intro u hu hk
      exact d1 u (by simp [infoOf, wrTags, hk]) (by simp only [infoOf, List.mem_append]; exact .inr (.inr (mem_wrRefs hm u hu)))
    · by_cases hxt : t ∈ ex.wr.map Prod.fst
      · obtain ⟨⟨t', c⟩, hm, rfl⟩ := List.mem_map.1 hxt
        simp only at hyt ⊢
        rw [put_cell_in _ _ _ wx4 hm, put_cell_out _ _ _ wy4 hyt, put_cell_in _ _ _ wx4 hm]
        simp only [Option.map_some, Option.some.injEq]
        refine (Cell.kill_id _ _ ?_).symm
        intro u hu hk
        exact d3 u (by simp [infoOf, wrTags, hk]) (by simp only [infoOf, List.mem_append]; exact .inr (.inr (mem_wrRefs hm u hu)))
      · rw [put_cell_out _ _ _ wx4 hxt, put_cell_out _ _ _ wy4 hyt, put_cell_out _ _ _ wy4 hyt, put_cell_out _ _ _ wx4 hxt]
        cases σ.get t with
        | none => rfl
        | some c => simp [Cell.kill_comm]

end Go.Ev
end

/- Regions: what is run in the order of the text holds for every order. -/
section
namespace Go.Ev
variable {P : Program} {gl : Nat → Option D}
variable {w0 : World} {O : Nat → Prop} {H0 : Imm} {N : Nat} {K : Nat → Prop} {B0 : Bind} {H : Imm} {B : Bind} {σ : St} {a : Act} {w : World}

/-- The same state in other words. -/
theorem Inv.seq {τ : St} (I : Inv w0 O H0 N K B0 H B σ a w) (h : SEq σ τ) : Inv w0 O H0 N K B0 H B τ a w := {
  size := I.size
  defers := I.defers
  env s := by rw [h.1]; exact I.env s
  cells t c hc := I.cells t c (by rw [← h.2]; exact hc)
  sep t c b hc := I.sep t c b (by rw [← h.2]; exact hc)
  apart t t' c c' b hne hc hc' := I.apart t t' c c' b hne (by rw [← h.2]; exact hc) (by rw [← h.2]; exact hc')
  imm := I.imm
  le := I.le
  fromH := I.fromH
  frame := I.frame
  grow := I.grow
  os := I.os
  tape := I.tape
  output := I.output
  keep t ht := by rw [h.2]; exact I.keep t ht }

theorem Inv.world {w' : World} (I : Inv w0 O H0 N K B0 H B σ a w) (hh : w'.heap = w.heap) (ho : w'.os = w.os) (ht : w'.tape = w.tape) (hp : w'.output = w.output) : Inv w0 O H0 N K B0 H B σ a w' := {
  size := I.size
  defers := I.defers
  env := I.env
  cells t c hc := by
    have := I.cells t c hc
    cases c with
    | var e v => obtain ⟨b, c, h1, h2, h3⟩ := this; exact ⟨b, c, h1, by rw [hh]; exact h2, h3⟩
    | row e sz l =>
      rcases this with h | ⟨b, cap, c, cs, post, h1, h2, h3⟩
      · exact .inl h
      · exact .inr ⟨b, cap, c, cs, post, h1, by rw [hh]; exact h2, h3⟩
    | map ks vs => obtain ⟨r, es, clk, h1, h2, h3⟩ := this; exact ⟨r, es, clk, h1, by rw [hh]; exact h2, h3⟩
    | frz x => exact this
    | iter s pos => obtain ⟨b, h1, h2⟩ := this; exact ⟨b, h1, by rw [hh]; exact h2⟩
  sep := I.sep
  apart := I.apart
  imm b o h := by rw [hh]; exact I.imm b o h
  le := I.le
  fromH := I.fromH
  frame b h h' := by rw [hh]; exact I.frame b h h'
  grow := by rw [hh]; exact I.grow
  os := by rw [ho]; exact I.os
  tape := by rw [ht]; exact I.tape
  output := by rw [hp]; exact I.output
  keep := I.keep }

/-! ## Runs -/
structure It where
  i : Nat
  o : SOpr
  inf : Info

def Runs (gl : Nat → Option D) (call : CallF) (id : Nat) : List It → St → St → Prop
  | [], σ, τ => SEq σ τ
  | t :: l, σ, τ => ∃ e, stepE gl call (tagOf id t.i) t.o σ = some e ∧ infoOf gl t.o σ e = t.inf ∧ Runs gl call id l (σ.put t.o.dst e) τ

theorem Runs.seq {call : CallF} {id : Nat} : ∀ {l : List It} {σ σ' τ : St}, SEq σ σ' → Runs gl call id l σ τ → Runs gl call id l σ' τ
  | [], _, _, _, h, r => h.symm.trans r
  | t :: l, _, _, _, h, r => by
    obtain ⟨e, h1, h2, h3⟩ := r
    exact ⟨e, (h.stepE gl call _ _).trans h1, (h.infoOf gl _ _).trans h2, Runs.seq (h.put _ _) h3⟩

def Indep (x y : It) : Prop := x.o.apart y.o = true ∧ (x.inf.indep y.inf = true ∨ (x.o.op.loud = false ∧ y.o.op.loud = false))

/-- What is not loud writes nothing. -/
theorem quiet {call : CallF} {T : Nat} {op : SOp} {val : X → V} {g : Nat → Option Cell} {e : Eff} (hq : op.loud = false) (h : evalOp call T op val g = some e) : e.wr = [] ∧ e.kill = [] := by
  have key : ∀ {v : V} {e : Eff}, okEff v = some e → e.wr = [] ∧ e.kill = [] := by
    intro v e h; simp [okEff] at h; subst h; exact ⟨rfl, rfl⟩
  cases op <;> simp [SOp.loud] at hq <;> simp only [evalOp] at h <;> (repeat' split at h) <;> first | exact key h | (simp at h; done)

theorem quietE {call : CallF} {T : Nat} {o : SOpr} {e : Eff} (hq : o.op.loud = false) (h : stepE gl call T o σ = some e) : e.wr = [] ∧ e.kill = [] := by
  unfold stepE at h
  split at h
  · simp at h
  · simp at h; subst h; exact ⟨rfl, rfl⟩
  · exact quiet hq h

theorem put_quiet {e : Eff} (hw : e.wr = []) (hk : e.kill = []) (dst : Option Nat) : (∀ s, (σ.put dst e).env.get s = if dst = some s then e.res else σ.env.get s) ∧ (∀ t, (σ.put dst e).get t = σ.get t) := by
  refine ⟨fun s => by rw [put_env', hk, kill_nil], fun t => ?_⟩
  rw [put_cell_out σ dst e (by rw [hw]; simp) (by rw [hw]; simp), hk]
  cases σ.get t <;> simp [Cell.kill_nil]

/-- Two operations that only compute. -/
theorem swap_quiet {call : CallF} {Tx Ty : Nat} {x y : SOpr} {ex ey : Eff}
    (hx : stepE gl call Tx x σ = some ex) (hy : stepE gl call Ty y (σ.put x.dst ex) = some ey) (hap : x.apart y = true)
    (qx : x.op.loud = false) (qy : y.op.loud = false) :
    stepE gl call Ty y σ = some ey ∧ infoOf gl y σ ey = infoOf gl y (σ.put x.dst ex) ey ∧
    stepE gl call Tx x (σ.put y.dst ey) = some ex ∧ infoOf gl x (σ.put y.dst ey) ex = infoOf gl x σ ex ∧
    SEq ((σ.put x.dst ex).put y.dst ey) ((σ.put y.dst ey).put x.dst ex) := by
  simp only [SOpr.apart, Bool.and_eq_true] at hap
  have a1 : ∀ s ∈ y.reads, x.dst ≠ some s := by
    intro s hs e
    have := hap.1
    rw [e] at this
    simp only [Bool.and_eq_true, Bool.not_eq_true', List.contains_eq_mem, decide_eq_false_iff_not] at this
    exact this.1 hs
  have a2 : ∀ d, x.dst = some d → y.dst ≠ some d := by
    intro d e
    have := hap.1
    rw [e] at this
    simp only [Bool.and_eq_true, bne_iff_ne, ne_eq] at this
    exact this.2
  have a3 : ∀ s ∈ x.reads, y.dst ≠ some s := by
    intro s hs e
    have := hap.2
    rw [e] at this
    simp only [Bool.not_eq_true', List.contains_eq_mem, decide_eq_false_iff_not] at this
    exact this hs
  obtain ⟨wx, kx⟩ := quietE qx hx
  obtain ⟨wy, ky⟩ := quietE qy hy
  obtain ⟨px, cx⟩ := put_quiet (σ := σ) wx kx x.dst
  obtain ⟨py, cy⟩ := put_quiet (σ := σ) wy ky y.dst
  obtain ⟨pxy, cxy⟩ := put_quiet (σ := σ.put x.dst ex) wy ky y.dst
  obtain ⟨pyx, cyx⟩ := put_quiet (σ := σ.put y.dst ey) wx kx x.dst
  have hys : ∀ s ∈ y.reads, σ.env.get s = (σ.put x.dst ex).env.get s := fun s hs => by rw [px, if_neg (a1 s hs)]
  have hyc : agree (readTags gl y (σ.put x.dst ex)) (σ.put x.dst ex).get σ.get := fun t _ => (cx t).symm
  have hxs : ∀ s ∈ x.reads, (σ.put y.dst ey).env.get s = σ.env.get s := fun s hs => by rw [py, if_neg (a3 s hs)]
  have hxc : agree (readTags gl x σ) σ.get (σ.put y.dst ey).get := fun t _ => cy t
  obtain ⟨l1, l2, l3⟩ := stepE_local (call := call) (T := Ty) hys hyc
  obtain ⟨m1, m2, m3⟩ := stepE_local (call := call) (T := Tx) hxs hxc
  refine ⟨l1.trans hy, infoOf_local l2 l3 hyc, m1.trans hx, infoOf_local m2 m3 hxc, fun s => ?_, fun t => ?_⟩
  · rw [pyx, py, pxy, px]
    by_cases hyd : y.dst = some s
    · rw [if_neg (fun h => a2 s h hyd), if_pos hyd, if_pos hyd]
    · by_cases hxd : x.dst = some s
      · simp [hxd, hyd]
      · simp [hxd, hyd]
  · rw [cyx, cy, cxy, cx]

/-- What does not meet what comes before may come first. -/
theorem Runs.front {call : CallF} {id : Nat} {t : It} {post : List It} : ∀ {pre : List It} {σ τ : St}, (∀ p ∈ pre, Indep p t) → Runs gl call id (pre ++ t :: post) σ τ → Runs gl call id (t :: (pre ++ post)) σ τ
  | [], _, _, _, r => r
  | p :: pre, σ, τ, hp, r => by
    obtain ⟨e, h1, h2, h3⟩ := r
    obtain ⟨e', k1, k2, k3⟩ := Runs.front (fun q hq => hp q (by simp [hq])) h3
    obtain ⟨hap, hi⟩ := hp p (by simp)
    have hsw : stepE gl call (tagOf id t.i) t.o σ = some e' ∧ infoOf gl t.o σ e' = infoOf gl t.o (σ.put p.o.dst e) e' ∧
      stepE gl call (tagOf id p.i) p.o (σ.put t.o.dst e') = some e ∧ infoOf gl p.o (σ.put t.o.dst e') e = infoOf gl p.o σ e ∧
      SEq ((σ.put p.o.dst e).put t.o.dst e') ((σ.put t.o.dst e').put p.o.dst e) := by
      rcases hi with hi | ⟨q1, q2⟩
      · exact swap h1 k1 hap (by rw [h2, k2]; exact hi)
      · exact swap_quiet h1 k1 hap q1 q2
    obtain ⟨s1, s2, s3, s4, s5⟩ := hsw
    exact ⟨e', s1, s2.trans k2, e, s3, s4.trans h2, k3.seq s5⟩

end Go.Ev
end

/- Regions: one operation, all operations in order, all operations in any order. -/
section
namespace Go.Ev
variable {mv : Nat → Bool} {own : Bool} {P : Program} {gl : Nat → Option D}
variable {w0 : World} {O : Nat → Prop} {H0 : Imm} {N : Nat} {K : Nat → Prop} {B0 : Bind} {H : Imm} {B : Bind} {σ : St} {a : Act} {w : World} {ops : Array Oper} {os : List SOpr}

theorem cOpers_get {l : List Oper} : ∀ {os : List SOpr}, cOpers P mv ops l = some os → os.length = l.length ∧ ∀ (i : Nat) (S : SOpr), os[i]? = some S → ∃ o, l[i]? = some o ∧ cOper P mv ops o = some S := by
  induction l with
  | nil => intro os h; simp [cOpers] at h; subst h; simp
  | cons o l ih =>
    intro os h
    simp only [cOpers] at h
    cases h1 : cOper P mv ops o with
    | none => simp [h1] at h
    | some x =>
      cases h2 : cOpers P mv ops l with
      | none => simp [h1, h2] at h
      | some r =>
        simp only [h1, h2, Option.some.injEq] at h; subst h
        obtain ⟨i1, i2⟩ := ih h2
        refine ⟨by simp [i1], fun i S hS => ?_⟩
        cases i with
        | zero => simp at hS; subst hS; exact ⟨o, by simp, h1⟩
        | succ i => simp only [List.getElem?_cons_succ] at hS ⊢; exact i2 i S hS

theorem cOper_spec {o : Oper} {S : SOpr} (h : cOper P mv ops o = some S) : S.dst = o.dst ∧ cOp P mv o = some S.op ∧
    ((o.guard = none ∧ S.guard = none) ∨ ∃ j want s, o.guard = some (j, want) ∧ S.guard = some (s, want) ∧ (ops[j]?).bind (·.dst) = some s) := by
  unfold cOper at h
  split at h
  · simp at h
  · rename_i op hop
    split at h
    · rename_i hg
      simp at h; subst h
      exact ⟨rfl, hop, .inl ⟨hg, rfl⟩⟩
    · rename_i j want hg
      split at h
      · rename_i s hs
        simp at h; subst h
        exact ⟨rfl, hop, .inr ⟨j, want, s, hg, rfl, hs⟩⟩
      · simp at h

theorem RVv.skp_inv {v : Value} (h : RVv H B .skp v) : v = undef := by
  cases h with
  | one _ h => cases h
  | agg _ h => cases h
  | skp => rfl

theorem wanted_ok (I : Inv w0 O H0 N K B0 H B σ a w) {o : Oper} {S : SOpr} {b : Bool} (hc : cOper P mv ops o = some S) (h : wants σ S.guard = some b) :
    Region.wanted o (yielded ops a.tmps) = b := by
  obtain ⟨_, _, hg⟩ := cOper_spec hc
  unfold Region.wanted
  rcases hg with ⟨h1, h2⟩ | ⟨j, want, s, h1, h2, h3⟩
  · rw [h1]; rw [h2] at h; simpa [wants] using h
  · rw [h1]; rw [h2] at h
    simp only [wants] at h
    have hR := I.env s
    have key : ∀ v : Value, a.tmps.getD s undef = v → (∀ x, a.tmps[s]? = some x → x = v) := by
      intro v hv x hx
      rw [← hv]; simp [hx]
    simp only [yielded, h3, Option.bind_some]
    split at h
    · rename_i c hcb
      simp at h
      rw [hcb] at hR
      have hv := RVv.bool_inv hR
      cases hx : a.tmps[s]? with
      | none => simp [hx] at hv; cases hv
      | some x => have := key _ hv x hx; subst this; simpa using h
    · rename_i hcb
      simp at h; subst h
      rw [hcb] at hR
      have hv := RVv.skp_inv hR
      cases hx : a.tmps[s]? with
      | none => simp
      | some x => have := key _ hv x hx; subst this; simp [undef]
    · simp at h

/-- One operation. -/
theorem wpOp_ok (G : GlOk gl H0) (I : Inv w0 O H0 N K B0 H B σ a w) {call : CallF} (hcall : CallOk P gl call) {T : Nat} (hT : 1000 ≤ T) {o : Oper} {S : SOpr} {i : Nat} {e : Eff}
    {Kn : Act → World → Prop} {Q : Exit → Act → World → Prop} (hi : ops[i]? = some o) (hc : cOper P mv ops o = some S) (hd : ∀ d, S.dst = some d → d < N)
    (h : stepE gl call T S σ = some e)
    (hK : ∀ H' B' v w', H.le H' → Inv w0 O H0 N K B0 H' B' (σ.put S.dst e) (a.put o.dst v) w' → Kn (a.put o.dst v) w') : wpOp P ops Q i Kn a w := by
  obtain ⟨hdst, hop, _⟩ := cOper_spec hc
  unfold wpOp
  rw [hi]
  simp only
  unfold stepE at h
  split at h
  · simp at h
  · rename_i hw
    simp at h; subst h
    rw [wanted_ok I hc hw]
    simp only [Bool.false_eq_true, if_false]
    rw [hdst] at hd hK
    exact hK H B undef w (Imm.le_refl H) (I.same hd .skp)
  · rename_i hw
    rw [wanted_ok I hc hw]
    simp only [if_true]
    rw [hdst] at hd hK
    exact .inl (evalOp_ok G I hcall hT hd hop h hK)

theorem tagOf_ge (id i : Nat) : 1000 ≤ tagOf id i := by unfold tagOf; omega

/-- In the order of the text. -/
theorem wpOps_ok (G : GlOk gl H0) {call : CallF} (hcall : CallOk P gl call) {id : Nat} {Q : Exit → Act → World → Prop} (hos : cOpers P mv ops ops.toList = some os) (hd : ∀ S ∈ os, ∀ d, S.dst = some d → d < N) :
    ∀ (n k : Nat) (l : List SOpr) (H : Imm) (B : Bind) (σ τ : St) (a : Act) (w : World), l = os.drop k → k + n = ops.size →
      Inv w0 O H0 N K B0 H B σ a w → steps gl call id k l σ = some τ →
      (∀ H' B' a' w', H.le H' → Inv w0 O H0 N K B0 H' B' τ a' w' → Q .normal a' w') → wpOps P ops Q (List.range' k n) a w := by
  obtain ⟨hlen, hget⟩ := cOpers_get hos
  intro n
  induction n with
  | zero =>
    intro k l H B σ τ a w hl hk I h hQ
    have : l = [] := by rw [hl]; apply List.drop_of_length_le; rw [hlen]; simp; omega
    subst this
    simp [steps] at h; subst h
    exact hQ H B a w (Imm.le_refl H) I
  | succ n ih =>
    intro k l H B σ τ a w hl hk I h hQ
    have hlt : k < os.length := by rw [hlen]; simp; omega
    rw [List.drop_eq_getElem_cons hlt] at hl
    subst hl
    simp only [steps] at h
    have hS : os[k]? = some os[k] := by simp [hlt]
    obtain ⟨o, ho, hc⟩ := hget k _ hS
    rw [Array.getElem?_toList] at ho
    cases he : stepE gl call (tagOf id k) os[k] σ with
    | none => simp [he] at h
    | some e =>
      simp only [he] at h
      rw [List.range'_succ, wpOps_cons]
      exact wpOp_ok G I hcall (tagOf_ge id k) ho hc (hd _ (List.getElem_mem hlt)) he (fun H' B' v w' hle J =>
        ih (k + 1) _ H' B' _ τ _ _ rfl (by omega) J h (fun H'' B'' a' w'' hl' => hQ H'' B'' a' w'' (Imm.le_trans hle hl')))

/-- In every order. -/
theorem wpAny_ok (G : GlOk gl H0) {call : CallF} (hcall : CallOk P gl call) {id : Nat} {Q : Exit → Act → World → Prop} (hos : cOpers P mv ops ops.toList = some os) (hd : ∀ S ∈ os, ∀ d, S.dst = some d → d < N)
    {an : Nat → Nat → Bool} (hb : ∀ (i : Nat) (o : Oper), ops[i]? = some o → (∀ j : Nat, an i j = true → j < i) ∧ (∀ e ∈ o.after, Region.binds .any e = true → an i e.on = true) ∧
      (∀ j : Nat, an i j = true → ∃ e ∈ o.after, Region.binds .any e = true ∧ (e.on = j ∨ an e.on j = true))) {τ : St} :
    ∀ (fuel : Nat) (R : List It) (listed : Array Bool) (H : Imm) (B : Bind) (σ : St) (a : Act) (w : World), R.length ≤ fuel →
      (∀ t ∈ R, os[t.i]? = some t.o) → List.Pairwise (fun (x y : Nat) => x < y) (R.map It.i) → (∀ i : Nat, i < ops.size → (listed.getD i true = false ↔ i ∈ R.map It.i)) → listed.size = ops.size →
      (∀ i : Nat, i < ops.size → listed.getD i true = true → ∀ j : Nat, an i j = true → listed.getD j true = true) →
      (∀ p ∈ R, ∀ t ∈ R, p.i < t.i → an t.i p.i = false → Indep p t) →
      Runs gl call id R σ τ → Inv w0 O H0 N K B0 H B σ a w →
      (∀ H' B' a' w', H.le H' → Inv w0 O H0 N K B0 H' B' τ a' w' → Q .normal a' w') → wpAny P .any ops Q fuel listed a w := by
  obtain ⟨hlen, hget⟩ := cOpers_get hos
  have hlen' : os.length = ops.size := by simpa using hlen
  intro fuel
  induction fuel with
  | zero =>
    intro R listed H B σ a w hf hR hP hL hsz hcl hI hrun I hQ
    have : R = [] := by cases R <;> simp at hf ⊢
    subst this
    refine ⟨?_, hQ H B a w (Imm.le_refl H) (I.seq hrun)⟩
    apply List.eq_nil_iff_forall_not_mem.2
    intro i hi
    obtain ⟨h1, o, ho, _⟩ := mem_ready.1 hi
    have := (hL i (Array.getElem?_eq_some_iff.1 ho).1).1 h1
    simp at this
  | succ fuel ih =>
    intro R listed H B σ a w hf hR hP hL hsz hcl hI hrun I hQ
    have hin : ∀ i : Nat, i < ops.size → listed.getD i false = listed.getD i true := by
      intro i hi
      have : i < listed.size := by omega
      simp [this]
    refine ⟨fun hnil => ?_, fun i hi => ?_⟩
    · -- the first that is left is ready
      cases R with
      | nil => exact hQ H B a w (Imm.le_refl H) (I.seq hrun)
      | cons t R =>
        exfalso
        have ht := hR t (by simp)
        obtain ⟨o, ho, _⟩ := hget _ _ ht
        rw [Array.getElem?_toList] at ho
        have hlt : t.i < ops.size := (Array.getElem?_eq_some_iff.1 ho).1
        obtain ⟨h1, h2, h3⟩ := hb _ _ ho
        have : t.i ∈ Region.ready .any ops listed := by
          refine mem_ready.2 ⟨(hL t.i hlt).2 (by simp), o, ho, fun e he hbi => ?_⟩
          have hon := h1 _ (h2 e he hbi)
          rw [hin _ (by omega)]
          cases hh : listed.getD e.on true with
          | true => rfl
          | false =>
            have := (hL e.on (by omega)).1 hh
            simp only [List.map_cons, List.mem_cons] at this
            simp only [List.map_cons, List.pairwise_cons] at hP
            rcases this with h | h
            · omega
            · have := hP.1 _ h; omega
        rw [hnil] at this
        simp at this
    · obtain ⟨h1, o, ho, hall⟩ := mem_ready.1 hi
      have hlt : i < ops.size := (Array.getElem?_eq_some_iff.1 ho).1
      obtain ⟨t, htR, rfl⟩ := List.mem_map.1 ((hL i hlt).1 h1)
      obtain ⟨pre, post, rfl⟩ := List.append_of_mem htR
      obtain ⟨a1, a2, a3⟩ := hb _ _ ho
      have hsome := hR t (by simp)
      obtain ⟨o', ho', hc⟩ := hget _ _ hsome
      rw [Array.getElem?_toList, ho] at ho'
      simp at ho'; subst ho'
      -- all that must come before it is listed
      have hanc : ∀ j : Nat, an t.i j = true → listed.getD j true = true := by
        intro j hj
        obtain ⟨e, he, hbi, h⟩ := a3 j hj
        have hon := a1 _ (a2 e he hbi)
        have hli := hall e he hbi
        rw [hin _ (by omega)] at hli
        rcases h with rfl | h
        · exact hli
        · exact hcl _ (by omega) hli _ h
      rw [List.map_append, List.map_cons] at hP
      obtain ⟨hP1, hP2, hP3⟩ := List.pairwise_append.1 hP
      have hpre : ∀ p ∈ pre, Indep p t := by
        intro p hp
        have hlt' : p.i < t.i := hP3 _ (List.mem_map.2 ⟨p, hp, rfl⟩) _ (by simp)
        refine hI p (by simp [hp]) t (by simp) hlt' ?_
        cases hh : an t.i p.i with
        | false => rfl
        | true =>
          have h4 := hanc _ hh
          have h5 := (hL p.i (by omega)).2 (List.mem_map.2 ⟨p, by simp [hp], rfl⟩)
          rw [h4] at h5; simp at h5
      obtain ⟨e, k1, _, k3⟩ := Runs.front hpre hrun
      refine wpOp_ok G I hcall (tagOf_ge id t.i) ho hc (hd _ (List.mem_of_getElem? hsome)) k1 (fun H' B' v w' hle J => ?_)
      have hnot : t.i ∉ (pre ++ post).map It.i := by
        rw [List.map_append, List.mem_append]
        rintro (h | h)
        · have := hP3 _ h t.i (by simp); omega
        · have := (List.pairwise_cons.1 hP2).1 _ h; omega
      refine ih (pre ++ post) _ H' B' _ _ _ (by simp at hf ⊢; omega) (fun q hq => hR q ?_) ?_ (fun k hk => ?_) (by simp [hsz]) (fun k hk hl' j hj => ?_) (fun p hp q hq => hI p ?_ q ?_) k3 J
        (fun H'' B'' a' w'' hl' => hQ H'' B'' a' w'' (Imm.le_trans hle hl'))
      · simp only [List.mem_append, List.mem_cons] at hq ⊢; exact hq.imp _root_.id .inr
      · rw [List.map_append]
        exact List.pairwise_append.2 ⟨hP1, (List.pairwise_cons.1 hP2).2, fun x hx y hy => hP3 x hx y (by simp [hy])⟩
      · by_cases hkt : t.i = k
        · subst hkt
          have : t.i < listed.size := by omega
          simp only [hnot, iff_false]
          simp [this]
        · rw [getD_set_ne true hkt, hL k hk]
          simp only [List.map_append, List.map_cons, List.mem_append, List.mem_cons]
          constructor
          · rintro (h | h | h)
            · exact .inl h
            · exact absurd h.symm hkt
            · exact .inr h
          · rintro (h | h)
            · exact .inl h
            · exact .inr (.inr h)
      · have step : ∀ j, listed.getD j true = true → (listed.setIfInBounds t.i true).getD j true = true := by
          intro j hj
          by_cases hjt : t.i = j
          · subst hjt
            have : t.i < listed.size := by omega
            simp [this]
          · rw [getD_set_ne true hjt]; exact hj
        by_cases hkt : t.i = k
        · subst hkt
          exact step _ (hanc _ hj)
        · rw [getD_set_ne true hkt] at hl'
          exact step _ (hcl k hk hl' j hj)
      · simp only [List.mem_append, List.mem_cons] at hp ⊢; exact hp.imp _root_.id .inr
      · simp only [List.mem_append, List.mem_cons] at hq ⊢; exact hq.imp _root_.id .inr

end Go.Ev
end

/- Code: what the evaluator says of a function's text holds of its run. -/
section
namespace Go.Ev
variable {mv : Nat → Bool} {own : Bool} {P : Program} {gl : Nat → Option D}
variable {w0 : World} {O : Nat → Prop} {H0 : Imm} {N : Nat} {K : Nat → Prop} {B0 : Bind} {H : Imm} {B : Bind} {σ : St} {a : Act} {w : World} {ops : Array Oper} {os : List SOpr}

theorem drop_get (ds : List Nat) (e : Env) (s : Nat) : (Env.drop ds e).get s = if ds.contains s then .und else e.get s := by
  induction e with
  | nil => simp [Env.drop, Env.get]
  | cons p e ih =>
    obtain ⟨k, v⟩ := p
    simp only [Env.drop]
    by_cases hk : ds.contains k
    · rw [if_pos hk, ih]
      simp only [Env.get]
      by_cases hs : k = s
      · subst hs; simp only [hk, if_true]
      · rw [if_neg hs]
    · rw [if_neg hk]
      simp only [Env.get, ih]
      by_cases hs : k = s
      · subst hs; simp only [hk, if_true, if_false, Bool.false_eq_true]
      · rw [if_neg hs, if_neg hs]

theorem keep_get (ks : List Nat) (e : Env) (s : Nat) : Env.get (keepKeys ks e) s = if ks.contains s then e.get s else .und := by
  induction e with
  | nil => simp [keepKeys, Env.get]
  | cons p e ih =>
    obtain ⟨k, v⟩ := p
    simp only [keepKeys]
    by_cases hk : ks.contains k
    · rw [if_pos hk]
      simp only [Env.get, ih]
      by_cases hs : k = s
      · subst hs; simp only [hk, if_true]
      · rw [if_neg hs, if_neg hs]
    · rw [if_neg hk, ih]
      simp only [Env.get]
      by_cases hs : k = s
      · subst hs; simp only [hk, if_false, Bool.false_eq_true]
      · rw [if_neg hs]

theorem keep_assoc {α : Type} (ks : List Nat) (e : List (Nat × α)) (s : Nat) : assoc s (keepKeys ks e) = if ks.contains s then assoc s e else none := by
  induction e with
  | nil => simp [keepKeys, assoc]
  | cons p e ih =>
    obtain ⟨k, v⟩ := p
    simp only [keepKeys]
    by_cases hk : ks.contains k
    · rw [if_pos hk]
      simp only [assoc, ih]
      by_cases hs : k = s
      · subst hs; simp only [hk, if_true]
      · rw [if_neg hs, if_neg hs]
    · rw [if_neg hk, ih]
      simp only [assoc]
      by_cases hs : k = s
      · subst hs; simp only [hk, if_false, Bool.false_eq_true]
      · rw [if_neg hs]

/-- Less may be known. -/
theorem Inv.weaken {τ : St} (I : Inv w0 O H0 N K B0 H B σ a w) (he : ∀ s, τ.env.get s = σ.env.get s ∨ τ.env.get s = .und) (hc : ∀ t c, τ.get t = some c → σ.get t = some c)
    (hK : ∀ t, K t → τ.get t = σ.get t) : Inv w0 O H0 N K B0 H B τ a w := {
  size := I.size
  defers := I.defers
  env s := by
    rcases he s with h | h
    · rw [h]; exact I.env s
    · rw [h]; exact .und _
  cells t c h := I.cells t c (hc t c h)
  sep t c b h := I.sep t c b (hc t c h)
  apart t t' c c' b hne h h' := I.apart t t' c c' b hne (hc t c h) (hc t' c' h')
  imm := I.imm
  le := I.le
  fromH := I.fromH
  frame := I.frame
  grow := I.grow
  os := I.os
  tape := I.tape
  output := I.output
  keep t ht := by rw [hK t ht]; exact I.keep t ht }

theorem Inv.drop (I : Inv w0 O H0 N K B0 H B σ a w) (ds : List Nat) : Inv w0 O H0 N K B0 H B { σ with env := σ.env.drop ds } a w :=
  I.weaken (fun s => by rw [drop_get]; split <;> simp) (fun _ _ h => h) (fun _ _ => rfl)

theorem assoc_mem_keys {α : Type} : ∀ {l : List (Nat × α)} {t : Nat} {c : α}, assoc t l = some c → t ∈ l.map Prod.fst
  | [], t, c, h => by simp [assoc] at h
  | (k, x) :: l, t, c, h => by
    simp only [assoc] at h
    split at h
    · rename_i hk; subst hk; simp
    · simp [List.mem_cons, assoc_mem_keys h]

theorem Inv.norm (I : Inv w0 O H0 N K B0 H B σ a w) (ks ts : List Nat) (hts : ∀ t, K t → t ∈ ts) : Inv w0 O H0 N K B0 H B (σ.norm ks ts) a w := by
  refine I.weaken (fun s => ?_) (fun t c h => ?_) (fun t ht => ?_)
  · show Env.get (keepKeys ks σ.env) s = _ ∨ Env.get (keepKeys ks σ.env) s = _
    rw [keep_get]; split <;> simp
  · simp only [St.get, St.norm] at h
    rw [keep_assoc] at h
    split at h
    · exact h
    · simp at h
  · show assoc t (keepKeys _ σ.cells) = assoc t σ.cells
    rw [keep_assoc, if_pos]
    simp [hts t ht]

/-! ## Steps with what they read and wrote -/
def items (k : Nat) : List SOpr → List Info → List It
  | o :: l, x :: is => ⟨k, o, x⟩ :: items (k + 1) l is
  | _, _ => []

theorem stepsI_runs {call : CallF} {id : Nat} : ∀ {l : List SOpr} {k : Nat} {σ τ : St} {is : List Info}, stepsI gl call id k l σ = some (τ, is) → is.length = l.length ∧ Runs gl call id (items k l is) σ τ
  | [], k, σ, τ, is, h => by simp [stepsI] at h; obtain ⟨rfl, rfl⟩ := h; exact ⟨rfl, SEq.refl _⟩
  | o :: l, k, σ, τ, is, h => by
    simp only [stepsI] at h
    cases he : stepE gl call (tagOf id k) o σ with
    | none => simp [he] at h
    | some e =>
      simp only [he] at h
      cases hs : stepsI gl call id (k + 1) l (σ.put o.dst e) with
      | none => simp [hs] at h
      | some r =>
        obtain ⟨τ', is'⟩ := r
        simp only [hs, Option.some.injEq, Prod.mk.injEq] at h
        obtain ⟨rfl, rfl⟩ := h
        obtain ⟨h1, h2⟩ := stepsI_runs hs
        exact ⟨by simp [h1], e, he, rfl, h2⟩

theorem steps_stepsI {call : CallF} {id : Nat} : ∀ {l : List SOpr} {k : Nat} {σ τ : St}, steps gl call id k l σ = some τ → ∃ is, stepsI gl call id k l σ = some (τ, is)
  | [], k, σ, τ, h => by simp [steps] at h; subst h; exact ⟨[], rfl⟩
  | o :: l, k, σ, τ, h => by
    simp only [steps] at h
    cases he : stepE gl call (tagOf id k) o σ with
    | none => simp [he] at h
    | some e =>
      simp only [he] at h
      obtain ⟨is, h'⟩ := steps_stepsI h
      exact ⟨_, by simp only [stepsI, he, h']; rfl⟩

theorem items_spec : ∀ {l : List SOpr} {is : List Info} {k : Nat}, is.length = l.length →
    (items k l is).map It.i = List.range' k l.length ∧ ∀ t ∈ items k l is, k ≤ t.i ∧ l[t.i - k]? = some t.o ∧ is[t.i - k]? = some t.inf
  | [], [], k, _ => by simp [items]
  | o :: l, x :: is, k, h => by
    simp at h
    obtain ⟨h1, h2⟩ := items_spec (k := k + 1) h
    refine ⟨by simp [items, h1, List.range'_succ], fun t ht => ?_⟩
    simp only [items, List.mem_cons] at ht
    rcases ht with rfl | ht
    · simp
    · obtain ⟨a1, a2, a3⟩ := h2 t ht
      have : t.i - k = (t.i - (k + 1)) + 1 := by omega
      rw [this]
      exact ⟨by omega, by simpa using a2, by simpa using a3⟩

theorem maskOf_spec {ms : List Nat} : ∀ {l : List Edge} {j : Nat}, (maskOf ms l).testBit j = true ↔ ∃ e ∈ l, Region.binds .any e = true ∧ (e.on = j ∨ (ms.getD e.on 0).testBit j = true)
  | [], j => by simp [maskOf]
  | e :: l, j => by
    simp only [maskOf]
    split
    · rename_i hb
      rw [Nat.testBit_or, Nat.testBit_or, Nat.testBit_two_pow, Bool.or_eq_true, Bool.or_eq_true, maskOf_spec (l := l)]
      simp only [decide_eq_true_eq, List.mem_cons, exists_eq_or_imp, hb, true_and]
    · rename_i hb
      rw [maskOf_spec (l := l)]
      simp only [List.mem_cons, exists_eq_or_imp, hb, Bool.false_eq_true, false_and, false_or]

theorem backOk_spec {ms : List Nat} : ∀ {l : List Oper} {ns : List Nat} {k : Nat}, backOk ms k l ns = true → ns.length = l.length ∧ ∀ (i : Nat) (o : Oper), l[i]? = some o → ns.getD i 0 = maskOf ms o.after.toList ∧ ns.getD i 0 < 2 ^ (k + i)
  | [], [], k, _ => by simp
  | [], n :: ns, k, h => by simp [backOk] at h
  | o :: l, [], k, h => by simp [backOk] at h
  | o :: l, m :: ns, k, h => by
    simp only [backOk, Bool.and_eq_true, beq_iff_eq, Nat.blt_eq] at h
    obtain ⟨⟨h1, h2⟩, h3⟩ := h
    obtain ⟨i1, i2⟩ := backOk_spec h3
    refine ⟨by simp [i1], fun i x hx => ?_⟩
    cases i with
    | zero => simp at hx; subst hx; exact ⟨h1, h2⟩
    | succ i =>
      simp only [List.getElem?_cons_succ] at hx
      obtain ⟨a, b⟩ := i2 i x hx
      exact ⟨a, by rw [show k + (i + 1) = k + 1 + i by omega]; exact b⟩

theorem apartOk_spec : ∀ {l : List SOpr} {ms : List Nat} {prev : List (Nat × SOpr)} {k : Nat}, ms.length = l.length → apartOk prev k l ms = true →
    ∀ (j : Nat) (y : SOpr), l[j]? = some y → (∀ p ∈ prev, (ms.getD j 0).testBit p.1 = true ∨ p.2.apart y = true) ∧ (∀ (i : Nat) (x : SOpr), i < j → l[i]? = some x → (ms.getD j 0).testBit (k + i) = true ∨ x.apart y = true)
  | [], [], _, _, _, _ => by simp
  | z :: l, m :: ms, prev, k, hl, h => by
    simp only [apartOk, Bool.and_eq_true] at h
    simp at hl
    have ih := apartOk_spec hl h.2
    intro j y hy
    cases j with
    | zero =>
      simp at hy; subst hy
      refine ⟨fun p hp => ?_, fun i x hi => by omega⟩
      have := List.all_eq_true.1 h.1 p hp
      simpa using this
    | succ j =>
      simp only [List.getElem?_cons_succ] at hy
      obtain ⟨a, b⟩ := ih j y hy
      refine ⟨fun p hp => a p (by simp [hp]), fun i x hi hx => ?_⟩
      cases i with
      | zero => simp at hx; subst hx; exact a (k, z) (by simp)
      | succ i =>
        simp only [List.getElem?_cons_succ] at hx
        have := b i x (by omega) hx
        rw [show k + (i + 1) = k + 1 + i by omega]; exact this

theorem chkRow_mem {y : SOpr} {m j : Nat} {l : List (Nat × SOpr)} {p : Nat × SOpr} (hp : p ∈ l) (h1 : m.testBit p.1 = false) (h2 : (p.2.op.loud || y.op.loud) = true) : (p.1, j) ∈ chkRow y m j l := by
  induction l with
  | nil => simp at hp
  | cons q l ih =>
    obtain ⟨i, x⟩ := q
    unfold chkRow
    simp only [List.mem_cons] at hp
    rcases hp with rfl | hp
    · have : (!(m.testBit i) && (x.op.loud || y.op.loud)) = true := by
        simp only at h1 h2
        rw [h1, h2]; rfl
      rw [if_pos this]; exact List.mem_cons_self
    · split
      · exact List.mem_cons_of_mem _ (ih hp)
      · exact ih hp

theorem chkPairs_mem : ∀ {l : List SOpr} {ms : List Nat} {prev : List (Nat × SOpr)} {k : Nat}, ms.length = l.length → ∀ (j : Nat) (y : SOpr), l[j]? = some y →
    (∀ p ∈ prev, (ms.getD j 0).testBit p.1 = false → (p.2.op.loud || y.op.loud) = true → (p.1, k + j) ∈ chkPairs prev k l ms) ∧
    (∀ (i : Nat) (x : SOpr), i < j → l[i]? = some x → (ms.getD j 0).testBit (k + i) = false → (x.op.loud || y.op.loud) = true → (k + i, k + j) ∈ chkPairs prev k l ms)
  | [], [], _, _, _ => by simp
  | z :: l, m :: ms, prev, k, hl => by
    simp at hl
    intro j y hy
    simp only [chkPairs]
    cases j with
    | zero =>
      simp at hy; subst hy
      refine ⟨fun p hp h1 h2 => List.mem_append_left _ (chkRow_mem hp h1 h2), fun i x hi => by omega⟩
    | succ j =>
      simp only [List.getElem?_cons_succ] at hy
      obtain ⟨a, b⟩ := chkPairs_mem (prev := prev ++ [(k, z)]) (k := k + 1) hl j y hy
      rw [show k + (j + 1) = k + 1 + j by omega]
      refine ⟨fun p hp h1 h2 => List.mem_append_right _ (a p (by simp [hp]) h1 h2), fun i x hi hx h1 h2 => List.mem_append_right _ ?_⟩
      cases i with
      | zero => simp at hx; subst hx; exact a (k, z) (by simp) h1 h2
      | succ i =>
        simp only [List.getElem?_cons_succ] at hx
        rw [show k + (i + 1) = k + 1 + i by omega] at h1 ⊢
        exact b i x (by omega) hx h1 h2

/-- A region that asks the tape. -/
theorem draw_ok (G : GlOk gl H0) {call : CallF} (hcall : CallOk P gl call) (hm : P.follows .mixedOrders = true) {id : Nat} {Q : Exit → Act → World → Prop} (hos : cOpers P mv ops ops.toList = some os) (hd : ∀ S ∈ os, ∀ d, S.dst = some d → d < N)
    {ms : List Nat} (hback : backOk ms 0 ops.toList ms = true) (hap : apartOk [] 0 os ms = true) {τ : St} {is : List Info}
    (h : stepsI gl call id 0 os σ = some (τ, is)) (hchk : ∀ p ∈ chkPairs [] 0 os ms, indepAt is p.1 p.2 = true) (I : Inv w0 O H0 N K B0 H B σ a w)
    (hQ : ∀ H' B' a' w', H.le H' → Inv w0 O H0 N K B0 H' B' τ a' w' → Q .normal a' w') : (Code.region id ops true).wp P Q a w := by
  obtain ⟨hl, hr⟩ := stepsI_runs h
  obtain ⟨i1, i2⟩ := items_spec (k := 0) hl
  have hlen : os.length = ops.size := by have := (cOpers_get hos).1; simpa using this
  obtain ⟨hml, hmb⟩ := backOk_spec hback
  have hml' : ms.length = os.length := by rw [hml, hlen]; simp
  refine wp_region_any hm (wpAny_ok G hcall hos hd (an := fun i j => (ms.getD i 0).testBit j) (fun i o ho => ?_) (τ := τ) ops.size (items 0 os is) _ H B σ a _ ?_ (fun t ht => by have := (i2 t ht).2.1; simpa using this) ?_ (fun i hi => ?_) (by simp) (fun i hi hl => ?_) (fun p hp t ht hlt hun => ?_) hr (I.world rfl rfl rfl rfl) hQ)
  · obtain ⟨m1, m2⟩ := hmb i o (by rw [Array.getElem?_toList]; exact ho)
    rw [Nat.zero_add] at m2
    refine ⟨fun j hj => ?_, fun e he hbi => ?_, fun j hj => ?_⟩
    · have := Nat.ge_two_pow_of_testBit hj
      have h3 := Nat.lt_of_le_of_lt this m2
      exact (Nat.pow_lt_pow_iff_right (by omega)).1 h3
    · rw [m1]; exact maskOf_spec.2 ⟨e, by simpa using he, hbi, .inl rfl⟩
    · rw [m1] at hj
      obtain ⟨e, he, hbi, h⟩ := maskOf_spec.1 hj
      exact ⟨e, by simpa using he, hbi, h⟩
  · have := congrArg List.length i1
    simp at this; omega
  · rw [i1]; exact List.pairwise_lt_range'
  · rw [i1]
    simp [hi, hlen]
  · simp [hi] at hl
  · obtain ⟨_, p1, p2⟩ := i2 p hp
    obtain ⟨_, t1, t2⟩ := i2 t ht
    simp only [Nat.sub_zero] at p1 p2 t1 t2
    refine ⟨?_, ?_⟩
    · rcases (apartOk_spec hml' hap t.i t.o t1).2 p.i p.o hlt p1 with h | h
      · rw [Nat.zero_add] at h; rw [hun] at h; simp at h
      · exact h
    · by_cases hloud : (p.o.op.loud || t.o.op.loud) = true
      · left
        have := hchk _ ((chkPairs_mem hml' (prev := []) (k := 0) t.i t.o t1).2 p.i p.o hlt p1 (by rw [Nat.zero_add]; exact hun) hloud)
        simpa [indepAt, p2, t2] using this
      · right
        simp only [Bool.or_eq_true, not_or, Bool.not_eq_true] at hloud
        exact hloud

def EX.exit' : EX → Exit
  | .normal => .normal
  | .exit j => .exit j
  | .ret => .ret

/-- The code. -/
theorem evalCode_ok (G : GlOk gl H0) {call : CallF} (hcall : CallOk P gl call) (hm : P.follows .mixedOrders = true) {n : Nat} {drop : Nat → List Nat} : ∀ (c : Code) {Q : Exit → Act → World → Prop} {H : Imm} {B : Bind} {σ τ : St} {a : Act} {w : World} {x : EX},
    dstsOk N (cCode P mv drop c) = true → Inv w0 O H0 N K B0 H B σ a w → evalCode gl call n (cCode P mv drop c) σ = some (x, τ) →
    (∀ H' B' a' w', H.le H' → Inv w0 O H0 N K B0 H' B' τ a' w' → Q x.exit' a' w') → c.wp P Q a w := by
  intro c
  induction c with
  | skip =>
    intro Q H B σ τ a w x hd I h hQ
    simp [cCode, evalCode] at h
    obtain ⟨rfl, rfl⟩ := h
    exact wp_skip (hQ H B a w (Imm.le_refl H) I)
  | label l =>
    intro Q H B σ τ a w x hd I h hQ
    simp [cCode, evalCode] at h
    obtain ⟨rfl, rfl⟩ := h
    exact wp_label (hQ H B a w (Imm.le_refl H) I)
  | region id ops draw =>
    intro Q H B σ τ a w x hd I h hQ
    simp only [cCode] at h hd
    cases hos : cOpers P mv ops ops.toList with
    | none => simp [hos, evalCode] at h
    | some os =>
      simp only [hos] at h hd
      have hlen : os.length = ops.size := by have := (cOpers_get hos).1; simpa using this
      cases draw with
      | false =>
        simp only [Bool.false_eq_true, if_false, evalCode] at h hd
        have hd' : ∀ S ∈ os, ∀ d, S.dst = some d → d < N := by
          intro S hS d hSd
          have := List.all_eq_true.1 hd S hS
          simpa [hSd] using this
        cases hs : steps gl call id 0 os σ with
        | none => simp [hs] at h
        | some σ' =>
          simp only [hs, Option.some.injEq, Prod.mk.injEq] at h
          obtain ⟨rfl, rfl⟩ := h
          refine wp_region ?_
          rw [List.range_eq_range']
          exact wpOps_ok G hcall hos hd' ops.size 0 os H B σ σ' a w (by simp) (by simp) I hs (fun H' B' a' w' hle J => hQ H' B' a' w' hle (J.drop _))
      | true =>
        simp only [if_true] at h hd
        split at h
        · rename_i hok
          simp only [Bool.and_eq_true] at hok
          simp only [hok.1, hok.2, Bool.and_self, if_true] at hd
          have hd' : ∀ S ∈ os, ∀ d, S.dst = some d → d < N := by
            intro S hS d hSd
            have := List.all_eq_true.1 hd S hS
            simpa [hSd] using this
          simp only [evalCode] at h
          split at h
          · rename_i hch
            cases hs : steps gl call id 0 os σ with
            | none => simp [hs] at h
            | some σ' =>
              simp only [hs, Option.some.injEq, Prod.mk.injEq] at h
              obtain ⟨rfl, rfl⟩ := h
              obtain ⟨is, hsI⟩ := steps_stepsI hs
              exact draw_ok G hcall hm hos hd' hok.2 hok.1 hsI (by rw [hch]; simp) I (fun H' B' a' w' hle J => hQ H' B' a' w' hle (J.drop _))
          · rename_i ch chs hch
            cases hs : stepsI gl call id 0 os σ with
            | none => simp [hs] at h
            | some r =>
              obtain ⟨σ', is⟩ := r
              simp only [hs] at h
              split at h
              · rename_i hall
                simp only [Option.some.injEq, Prod.mk.injEq] at h
                obtain ⟨rfl, rfl⟩ := h
                rw [← hch] at hall
                exact draw_ok G hcall hm hos hd' hok.2 hok.1 hs (fun p hp => List.all_eq_true.1 hall p hp) I (fun H' B' a' w' hle J => hQ H' B' a' w' hle (J.drop _))
              · simp at h
        · simp [evalCode] at h
  | seq x y ihx ihy =>
    intro Q H B σ τ a w r hd I h hQ
    simp only [cCode, evalCode, dstsOk, Bool.and_eq_true] at h hd
    refine wp_seq ?_
    split at h
    · rename_i σ' hs
      refine ihx hd.1 I hs (fun H' B' a' w' hle J => ?_)
      exact ihy hd.2 J h (fun H'' B'' a'' w'' hle' => hQ H'' B'' a'' w'' (Imm.le_trans hle hle'))
    · rename_i hne
      refine ihx hd.1 I h (fun H' B' a' w' hle J => ?_)
      have := hQ H' B' a' w' hle J
      cases r with
      | normal => exact (hne τ h).elim
      | exit j => exact this
      | ret => exact this
  | cond c x y ihx ihy =>
    intro Q H B σ τ a w r hd I h hQ
    simp only [cCode] at h hd
    cases hc : cX c with
    | none => simp [hc, evalCode] at h
    | some C =>
      simp only [hc, evalCode, dstsOk, Bool.and_eq_true] at h hd
      have hX := X_ok G I hc
      split at h
      · rename_i hb
        rw [hb] at hX
        exact wp_cond_true hX.bool_inv (ihx hd.1 I h hQ)
      · rename_i hb
        rw [hb] at hX
        exact wp_cond_false hX.bool_inv (ihy hd.2 I h hQ)
      · simp at h
  | block id c ih =>
    intro Q H B σ τ a w r hd I h hQ
    simp only [cCode, evalCode, dstsOk] at h hd
    refine wp_block ?_
    split at h
    · rename_i j σ' hs
      refine ih hd I hs (fun H' B' a' w' hle J => ?_)
      show if j = id then Q .normal a' w' else Q (.exit j) a' w'
      by_cases hj : j = id
      · rw [if_pos hj] at h ⊢
        simp only [Option.some.injEq, Prod.mk.injEq] at h
        obtain ⟨rfl, rfl⟩ := h
        exact hQ H' B' a' w' hle J
      · rw [if_neg hj] at h ⊢
        simp only [Option.some.injEq, Prod.mk.injEq] at h
        obtain ⟨rfl, rfl⟩ := h
        exact hQ H' B' a' w' hle J
    · rename_i hne
      refine ih hd I h (fun H' B' a' w' hle J => ?_)
      have := hQ H' B' a' w' hle J
      cases r with
      | normal => exact this
      | exit j => exact (hne j τ h).elim
      | ret => exact this
  | loop c ih =>
    intro Q H B σ τ a w r hd I h hQ
    simp only [cCode, evalCode, dstsOk] at h hd
    have hts : ∀ t, K t → t ∈ σ.cells.map Prod.fst := by
      intro t ht
      obtain ⟨_, _, ty, v, hv⟩ := I.keep t ht
      exact assoc_mem_keys hv
    have key : ∀ (m : Nat) (ks ts : List Nat), (∀ t, K t → t ∈ ts) → ∀ {H : Imm} {B : Bind} {σ : St} {a : Act} {w : World}, Inv w0 O H0 N K B0 H B σ a w → iter ks ts (evalCode gl call n (cCode P mv drop c)) m σ = some (r, τ) →
        (∀ H' B' a' w', H.le H' → Inv w0 O H0 N K B0 H' B' τ a' w' → Q r.exit' a' w') → Code.rounds P c Q m a w := by
      intro m ks ts hts
      induction m with
      | zero => intro H B σ a w I h hQ; simp [iter] at h
      | succ m ihm =>
        intro H B σ a w I h hQ
        simp only [iter] at h
        rw [rounds_succ]
        split at h
        · rename_i σ' hs
          refine ih hd I hs (fun H' B' a' w' hle J => ?_)
          exact ihm (J.norm ks ts hts) h (fun H'' B'' a'' w'' hle' => hQ H'' B'' a'' w'' (Imm.le_trans hle hle'))
        · rename_i hne
          refine ih hd I h (fun H' B' a' w' hle J => ?_)
          have := hQ H' B' a' w' hle J
          cases r with
          | normal => exact (hne τ h).elim
          | exit j => exact this
          | ret => exact this
    exact wp_loop_rounds n (key n _ _ hts I h hQ)
  | exit id =>
    intro Q H B σ τ a w x hd I h hQ
    simp [cCode, evalCode] at h
    obtain ⟨rfl, rfl⟩ := h
    exact wp_exit (hQ H B a w (Imm.le_refl H) I)
  | ret =>
    intro Q H B σ τ a w x hd I h hQ
    simp [cCode, evalCode] at h
    obtain ⟨rfl, rfl⟩ := h
    exact wp_ret (hQ H B a w (Imm.le_refl H) I)
  | _ => intros; simp_all [cCode, evalCode]

end Go.Ev
end

/- Functions: the evaluator's answer holds of every call. -/
section
namespace Go.Ev
variable {mv : Nat → Bool} {own : Bool} {P : Program} {gl : Nat → Option D}
variable {w0 : World} {O : Nat → Prop} {H0 : Imm} {N : Nat} {K : Nat → Prop} {B0 : Bind} {H : Imm} {B : Bind} {σ : St} {a : Act} {w : World}

def readRes (tmps : Array Value) : ResultVar → Sem Value
  | .tmp t => pure (tmps.getD t undef)
  | .cell a t => do loadVar t (← asAddr (tmps.getD a undef))

theorem readRes_ok (I : Inv w0 O H0 N K B0 H B σ a w) : ∀ {rs : List ResultVar} {ss : List SRes} {vs : List V}, allSome (rs.map (cRes P own)) = some ss → resultsOf σ ss = some vs →
    ∃ xs, (rs.mapM (readRes a.tmps)).run P w = .ok xs w ∧ RVvs H B vs xs
  | [], ss, vs, h, hv => by simp [allSome] at h; subst h; simp [resultsOf] at hv; subst hv; exact ⟨[], by simp, .nil⟩
  | r :: rs, ss, vs, h, hv => by
    simp only [List.map_cons] at h
    cases hx : cRes P own r with
    | none => simp [hx, allSome] at h
    | some s =>
      simp only [hx, allSome] at h
      cases hl : allSome (rs.map (cRes P own)) with
      | none => simp [hl] at h
      | some q =>
        simp only [hl, Option.some.injEq] at h; subst h
        simp only [resultsOf] at hv
        split at hv
        · rename_i v us hv1 hv2
          simp at hv; subst hv
          obtain ⟨xs, h1, h2⟩ := readRes_ok I hl hv2
          have key : ∃ x, (readRes a.tmps r).run P w = .ok x w ∧ RVv H B v x := by
            cases r with
            | tmp t =>
              simp only [cRes, Option.some.injEq] at hx
              have : v = σ.env.get t := by
                split at hx <;> subst hx <;> simp at hv1 <;> exact hv1.symm
              subst this
              exact ⟨_, by simp [readRes], I.env t⟩
            | cell b t =>
              simp only [cRes] at hx
              split at hx
              · rename_i sz ag hsz hag
                simp at hx; subst hx
                simp only at hv1
                obtain ⟨ad, x, he, hr, hR⟩ := ldV_run I (I.env b) hsz hag hv1
                exact ⟨x, by simp [readRes, he, asAddr, hr], hR⟩
              · simp at hx
          obtain ⟨x, k1, k2⟩ := key
          exact ⟨x :: xs, by simp [List.mapM_cons, k1, h1], .cons k2 h2⟩
        · simp at hv

theorem results_eq (fn : Func) (tmps : Array Value) : results fn tmps = (do
    let vs ← fn.results.mapM (readRes tmps)
    pure (if h : vs.size = 1 then vs[0] else .tuple vs)) := by
  unfold results
  congr 1

/-- The results of a body. -/
theorem results_ok (I : Inv w0 O H0 N K B0 H B σ a w) {fn : Func} {ss : List SRes} {r : V} {cs : Cells} (hc : allSome (fn.results.toList.map (cRes P own)) = some ss) (h : result ss σ = some (r, cs)) :
    ∃ v H', (results fn a.tmps).run P w = .ok v w ∧ H.le H' ∧ RVv H' B r v ∧ ∃ x wr, Inv w0 O H0 N K B0 H' B (σ.put none { res := x, wr := wr }) a w ∧ cs = (σ.put none { res := x, wr := wr }).cells := by
  unfold result at h
  cases hv : resultsOf σ ss with
  | none => simp [hv] at h
  | some vs =>
    simp only [hv] at h
    obtain ⟨xs, h1, h2⟩ := readRes_ok (P := P) I hc hv
    obtain ⟨H1, I1, hle, hF⟩ := I.freeze vs
    have hrun : (results fn a.tmps).run P w = .ok (if h : xs.toArray.size = 1 then xs.toArray[0] else .tuple xs.toArray) w := by
      rw [results_eq]
      simp only [Array.mapM_eq_mapM_toList, Sem.run_bind, Sem.run_map, h1, Result.andThen_ok, Sem.run_pure]
    split at h
    · have hfin : ∀ (u : V) , RVv H B u (if h : xs.toArray.size = 1 then xs.toArray[0] else .tuple xs.toArray) → some (u, σ.cells) = some (r, cs) → ∃ v H', (results fn a.tmps).run P w = .ok v w ∧ H.le H' ∧ RVv H' B r v ∧ ∃ x wr, Inv w0 O H0 N K B0 H' B (σ.put none { res := x, wr := wr }) a w ∧ cs = (σ.put none { res := x, wr := wr }).cells := by
        intro u hu he
        simp only [Option.some.injEq, Prod.mk.injEq] at he
        obtain ⟨rfl, rfl⟩ := he
        exact ⟨_, H, hrun, Imm.le_refl H, hu, .und, [], I, rfl⟩
      split at h
      · refine hfin _ ?_ h
        cases h2 with
        | cons h3 h4 => cases h4; simpa using h3
      · rename_i hne
        refine hfin _ ?_ h
        have : ¬ xs.toArray.size = 1 := by
          intro h1
          cases h2 with
          | nil => simp at h1
          | cons h3 h4 => cases h4 with
            | nil => exact hne _ rfl
            | cons _ _ => simp at h1
        rw [dif_neg this]
        exact .tup h2
    cases hz : V.frzL σ.get vs with
    | none => simp [hz] at h
    | some us =>
      have hu := (h2.mono hle (fun _ _ => rfl)).frz us hF hz
      simp only [hz] at h
      refine ⟨_, H1, hrun, hle, ?_, .und, _, I1, ?_⟩
      · split at h
        · rename_i v' heq
          simp only [Option.some.injEq] at heq; subst heq
          simp only [Option.some.injEq, Prod.mk.injEq] at h
          obtain ⟨rfl, _⟩ := h
          cases hu with
          | cons h3 h4 => cases h4; simpa using h3
        · rename_i l hne heq
          simp only [Option.some.injEq] at heq; subst heq
          simp only [Option.some.injEq, Prod.mk.injEq] at h
          obtain ⟨rfl, _⟩ := h
          have : ¬ xs.toArray.size = 1 := by
            intro h1
            cases hu with
            | nil => simp at h1
            | cons h3 h4 => cases h4 with
              | nil => exact hne _ rfl
              | cons _ _ => simp at h1
          rw [dif_neg this]
          exact .tup hu
        · simp at h
      · split at h <;> simp at h <;> exact h.2.symm

theorem numbered_env : ∀ {l : List V} {k s : Nat}, Env.get (numbered k l) s = if k ≤ s then (l[s - k]?).getD .und else .und
  | [], k, s => by simp [numbered, Env.get]
  | x :: l, k, s => by
    simp only [numbered, Env.get, numbered_env (l := l)]
    by_cases h : k = s
    · subst h; simp
    · rw [if_neg h]
      by_cases h' : k ≤ s
      · have : s - k = (s - (k + 1)) + 1 := by omega
        rw [if_pos h', if_pos (by omega), this]
        simp
      · rw [if_neg h', if_neg (by omega)]

theorem RVvs.getD : ∀ {l : List V} {vs : List Value}, RVvs H B l vs → l.length = vs.length ∧ ∀ (i : Nat), RVv H B ((l[i]?).getD .und) (vs.getD i undef)
  | _, _, .nil => ⟨rfl, fun i => .und _⟩
  | _, _, .cons h1 h2 => by
    obtain ⟨a1, a2⟩ := RVvs.getD h2
    refine ⟨by simp [a1], fun i => ?_⟩
    cases i with
    | zero => simpa using h1
    | succ i => simpa using a2 i

theorem fn_calls {call : CallF} (hcall : CallOk P gl call) (hm : P.follows .mixedOrders = true) {n : Nat} {f : FuncId} {drop : Nat → List Nat} {S : SFunc} {args : List V} {cells : Cells} {r : V} {cells' : Cells}
    (hS : cFunc P mv f drop = some S) (h : runBody gl call n S args cells = some (r, cells')) : HasBody P f ∧
    ∀ H B w argv, GlOk gl H → RVvs H B args argv → Begins H B w cells → Calls P f argv.toArray w (Ends H B w cells r cells') := by
  unfold cFunc at hS
  cases hf : P.funcs[f]? with
  | none => simp [hf] at hS
  | some fn =>
    simp only [hf] at hS
    cases hb : fn.body with
    | none => simp [hb] at hS
    | some c =>
      simp only [hb] at hS
      cases hr : allSome (fn.results.toList.map (cRes P (mv f))) with
      | none => simp [hr] at hS
      | some ss =>
        simp only [hr] at hS
        split at hS
        · rename_i hok
          simp only [Bool.and_eq_true, bne_iff_ne, ne_eq] at hok
          simp only [Option.some.injEq] at hS
          subst hS
          refine ⟨⟨fn, hf, by simp [hb], by simpa using hok.2⟩, fun H B w argv G hargs hbeg => ?_⟩
          obtain ⟨hl, hg⟩ := hargs.getD
          unfold runBody at h
          split at h
          · rename_i hlen
            simp only at hlen
            refine calls_of_wp hf hb ?_
            have hsize : (argv.toArray ++ Array.replicate (fn.ntmps - argv.toArray.size) undef).size = max fn.ntmps (fn.params.size + fn.nfree) := by
              simp; omega
            have I : Inv w (ownBlocks B cells) H (max fn.ntmps (fn.params.size + fn.nfree)) (kVars cells) B H B { env := numbered 0 args, cells := cells } { tmps := argv.toArray ++ Array.replicate (fn.ntmps - argv.toArray.size) undef, defers := [] } w :=
              { size := hsize
                defers := rfl
                env := fun s => by
                  show RVv H B (Env.get (numbered 0 args) s) _
                  rw [numbered_env]
                  simp only [Nat.zero_le, if_true, Nat.sub_zero]
                  by_cases hs : s < argv.length
                  · have h1 := hg s
                    have : (argv.toArray ++ Array.replicate (fn.ntmps - argv.toArray.size) undef).getD s undef = argv.getD s undef := by
                      simp [Array.getElem?_append, List.getD, hs]
                    rw [this]; exact h1
                  · have : args[s]? = none := by rw [List.getElem?_eq_none_iff]; omega
                    rw [this]; exact .und _
                cells := hbeg.cells
                sep := hbeg.sep
                apart := hbeg.apart
                imm := hbeg.imm
                le := hbeg.le
                fromH := hbeg.fromH
                frame := hbeg.frame
                grow := hbeg.grow
                os := hbeg.os
                tape := hbeg.tape
                output := hbeg.output
                keep := hbeg.keep }
            have fin : ∀ {τ : St} {x : EX} {H' : Imm} {B' : Bind} {a' : Act} {w' : World}, result ss τ = some (r, cells') → Inv w (ownBlocks B cells) H (max fn.ntmps (fn.params.size + fn.nfree)) (kVars cells) B H' B' τ a' w' →
                a'.defers = [] ∧ ∃ v, (results fn a'.tmps).run P w' = .ok v w' ∧ Ends H B w cells r cells' (.returned v) w' := by
              intro τ x H' B' a' w' hres J
              obtain ⟨v, H'', h1, hle, hR, y, wr, J', hcs⟩ := results_ok J hr hres
              refine ⟨J.defers, v, h1, v, H'', B', rfl, hR, ?_⟩
              exact { size := rfl
                      defers := rfl
                      env := fun s => by show RVv H'' B' (Env.get [] s) _; exact .und _
                      cells := fun t c hc => J'.cells t c (by subst hcs; exact hc)
                      sep := fun t c b hc => J'.sep t c b (by subst hcs; exact hc)
                      apart := fun t t' c c' b hne hc hc' => J'.apart t t' c c' b hne (by subst hcs; exact hc) (by subst hcs; exact hc')
                      imm := J'.imm
                      le := J'.le
                      fromH := J'.fromH
                      frame := J'.frame
                      grow := J'.grow
                      os := J'.os
                      tape := J'.tape
                      output := J'.output
                      keep := fun t ht => by subst hcs; exact J'.keep t ht }
            cases hev : evalCode gl call n (cCode P mv drop c) { env := numbered 0 args, cells := cells } with
            | none => simp [hev] at h
            | some p =>
              obtain ⟨x, τ⟩ := p
              refine evalCode_ok G hcall hm c hok.1 I hev (fun H' B' a' w' hle J => ?_)
              cases x with
              | normal => simp only [hev] at h; exact fin (x := .normal) h J
              | ret => simp only [hev] at h; exact fin (x := .ret) h J
              | exit j => simp [hev] at h
          · simp at h
        · simp at hS

/-- The primitives: what they answer is what every call gives. -/
def PrimOk (P : Program) (gl : Nat → Option D) (f : FuncId) (p : List V → Cells → Option (V × Cells)) : Prop :=
  ∀ args cells r cells', p args cells = some (r, cells') → HasBody P f ∧
    ∀ H B w argv, GlOk gl H → RVvs H B args argv → Begins H B w cells → Calls P f argv.toArray w (Ends H B w cells r cells')

structure Cfg.Ok (P : Program) (C : Cfg) : Prop where
  mixed : P.follows .mixedOrders = true
  fn : ∀ f S, C.fn f = some S → ∃ mv drop, cFunc P mv f drop = some S
  prim : ∀ f p, C.prim f = some p → PrimOk P C.gl f p

/-- **What the evaluator answers holds of every call.** -/
theorem evalFn_ok {C : Cfg} (hC : C.Ok P) : ∀ n, CallOk P C.gl (evalFn C n) := by
  intro n
  induction n with
  | zero => intro f args cells r cells' h; simp [evalFn] at h
  | succ n ih =>
    intro f args cells r cells' h
    simp only [evalFn] at h
    cases hp : C.prim f with
    | some p => simp only [hp] at h; exact hC.prim f p hp args cells r cells' h
    | none =>
      simp only [hp] at h
      cases hS : C.fn f with
      | none => simp [hS] at h
      | some S =>
        simp only [hS] at h
        obtain ⟨_, drop, hd⟩ := hC.fn f S hS
        exact fn_calls ih hC.mixed hd h

end Go.Ev
end

/- The evaluator without its count: what some count answers. -/
section
namespace Go.Ev

def dropOf (t : List (Nat × List Nat)) (id : Nat) : List Nat := (assoc id t).getD []

def CallF.le (c c' : CallF) : Prop := ∀ f a s x, c f a s = some x → c' f a s = some x

theorem callEff_of {c c' : CallF} {m : Bool} {T : Nat} {f : FuncId} {args : List V} {get : Nat → Option Cell} {e : Eff}
    (h : callEff c m T f args get = some e) : ∃ as cs x, c f as cs = some x ∧ (∀ c' : CallF, c' f as cs = some x → callEff c' m T f args get = some e) := by
  unfold callEff at h ⊢
  cases h1 : frzM m get args with
  | none => simp [h1] at h
  | some as =>
    simp only [h1] at h ⊢
    cases h2 : reach (over (fzwM m get args) get) (V.refsL as) with
    | none => simp [h2] at h
    | some ts =>
      simp only [h2] at h ⊢
      cases h3 : pass (over (fzwM m get args) get) (swapped (numbered 0 ts)) ts with
      | none => simp [h3] at h
      | some cs0 =>
        simp only [h3] at h ⊢
        cases h4 : c f (V.renL (swapped (numbered 0 ts)) as) cs0 with
        | none => simp [h4] at h
        | some rc =>
          refine ⟨_, _, _, h4, fun c' hc' => ?_⟩
          simp only [h4] at h
          simp only [hc']
          exact h

theorem evalOp_of {c : CallF} {T : Nat} {op : SOp} {val : X → V} {get : Nat → Option Cell} {e : Eff}
    (h : evalOp c T op val get = some e) : (∀ c' : CallF, evalOp c' T op val get = some e) ∨ ∃ f as cs x, c f as cs = some x ∧ (∀ c' : CallF, c' f as cs = some x → evalOp c' T op val get = some e) := by
  cases op with
  | call f args =>
    simp only [evalOp] at h ⊢
    obtain ⟨as, cs, x, h1, h2⟩ := callEff_of (c' := c) h
    exact .inr ⟨_, as, cs, x, h1, h2⟩
  | callM f args =>
    simp only [evalOp] at h ⊢
    obtain ⟨as, cs, x, h1, h2⟩ := callEff_of (c' := c) h
    exact .inr ⟨_, as, cs, x, h1, h2⟩
  | callv f args =>
    simp only [evalOp] at h ⊢
    split at h
    · rename_i g hg
      obtain ⟨as, cs, x, h1, h2⟩ := callEff_of (c' := c) h
      exact .inr ⟨_, as, cs, x, h1, h2⟩
    · rename_i g cap hg
      obtain ⟨as, cs, x, h1, h2⟩ := callEff_of (c' := c) h
      exact .inr ⟨_, as, cs, x, h1, h2⟩
    · simp at h
  | _ => exact .inl (fun _ => h)

theorem stepE_of {gl : Nat → Option D} {c : CallF} {T : Nat} {o : SOpr} {σ : St} {e : Eff}
    (h : stepE gl c T o σ = some e) : (∀ c' : CallF, stepE gl c' T o σ = some e) ∨ ∃ f as cs x, c f as cs = some x ∧ (∀ c' : CallF, c' f as cs = some x → stepE gl c' T o σ = some e) := by
  unfold stepE at h ⊢
  split at h
  · simp at h
  · exact .inl (fun _ => h)
  · exact evalOp_of h

theorem stepE_mono {gl : Nat → Option D} {c c' : CallF} {T : Nat} {o : SOpr} {σ : St} {e : Eff} (hc : c.le c')
    (h : stepE gl c T o σ = some e) : stepE gl c' T o σ = some e := by
  rcases stepE_of h with h | ⟨f, as, cs, x, h1, h2⟩
  · exact h c'
  · exact h2 c' (hc _ _ _ _ h1)

theorem steps_mono {gl : Nat → Option D} {c c' : CallF} {id : Nat} (hc : c.le c') : ∀ {l : List SOpr} {i : Nat} {σ τ : St}, steps gl c id i l σ = some τ → steps gl c' id i l σ = some τ
  | [], _, _, _, h => h
  | o :: l, i, σ, τ, h => by
    simp only [steps] at h ⊢
    cases he : stepE gl c (tagOf id i) o σ with
    | none => simp [he] at h
    | some e => rw [stepE_mono hc he]; simp only [he] at h; exact steps_mono hc h

theorem stepsI_mono {gl : Nat → Option D} {c c' : CallF} {id : Nat} (hc : c.le c') : ∀ {l : List SOpr} {i : Nat} {σ : St} {r : St × List Info}, stepsI gl c id i l σ = some r → stepsI gl c' id i l σ = some r
  | [], _, _, _, h => h
  | o :: l, i, σ, r, h => by
    simp only [stepsI] at h ⊢
    cases he : stepE gl c (tagOf id i) o σ with
    | none => simp [he] at h
    | some e =>
      rw [stepE_mono hc he]; simp only [he] at h ⊢
      cases hs : stepsI gl c id (i + 1) l (σ.put o.dst e) with
      | none => simp [hs] at h
      | some q => rw [stepsI_mono hc hs]; simp only [hs] at h; exact h

theorem iter_mono {ks ts : List Nat} {b b' : St → Option (EX × St)} (hb : ∀ σ r, b σ = some r → b' σ = some r) : ∀ {n n' : Nat} {σ : St} {r : EX × St}, n ≤ n' → iter ks ts b n σ = some r → iter ks ts b' n' σ = some r
  | 0, _, _, _, _, h => by simp [iter] at h
  | n + 1, 0, _, _, hn, _ => by omega
  | n + 1, n' + 1, σ, r, hn, h => by
    simp only [iter] at h ⊢
    cases hs : b σ with
    | none => simp [hs] at h
    | some p =>
      obtain ⟨x, σ'⟩ := p
      rw [hb _ _ hs]
      simp only [hs] at h
      cases x with
      | normal => simp only at h ⊢; exact iter_mono hb (by omega) h
      | exit j => exact h
      | ret => exact h

theorem evalCode_mono {gl : Nat → Option D} {c c' : CallF} (hc : c.le c') {n n' : Nat} (hn : n ≤ n') : ∀ {s : SCode} {σ : St} {r : EX × St}, evalCode gl c n s σ = some r → evalCode gl c' n' s σ = some r := by
  intro s
  induction s with
  | skip => intro σ r h; exact h
  | region id ops draw chk drop =>
    intro σ r h
    simp only [evalCode] at h ⊢
    split at h
    · cases hs : steps gl c id 0 ops σ with
      | none => simp [hs] at h
      | some τ => rw [steps_mono hc hs]; simp only [hs] at h; exact h
    · cases hs : stepsI gl c id 0 ops σ with
      | none => simp [hs] at h
      | some τ => rw [stepsI_mono hc hs]; simp only [hs] at h ⊢; exact h
  | seq a b iha ihb =>
    intro σ r h
    simp only [evalCode] at h ⊢
    cases hs : evalCode gl c n a σ with
    | none => simp [hs] at h
    | some p =>
      obtain ⟨x, σ'⟩ := p
      rw [iha hs]
      simp only [hs] at h
      cases x with
      | normal => exact ihb h
      | exit j => exact h
      | ret => exact h
  | cond x a b iha ihb =>
    intro σ r h
    simp only [evalCode] at h ⊢
    split at h
    · exact iha h
    · exact ihb h
    · simp at h
  | block id a iha =>
    intro σ r h
    simp only [evalCode] at h ⊢
    cases hs : evalCode gl c n a σ with
    | none => simp [hs] at h
    | some p => rw [iha hs]; simp only [hs] at h; exact h
  | loop a iha =>
    intro σ r h
    simp only [evalCode] at h ⊢
    exact iter_mono (fun σ r h => iha h) hn h
  | exit id => intro σ r h; exact h
  | ret => intro σ r h; exact h
  | bad => intro σ r h; simp [evalCode] at h

theorem evalFn_mono1 (C : Cfg) : ∀ n, (evalFn C n).le (evalFn C (n + 1))
  | 0, f, a, s, x, h => by simp [evalFn] at h
  | n + 1, f, a, s, x, h => by
    simp only [evalFn] at h
    rw [show evalFn C (n + 1 + 1) f a s = (match C.prim f with | some p => p a s | none => match C.fn f with | none => none | some S => runBody C.gl (evalFn C (n + 1)) (n + 1) S a s) from rfl]
    cases hp : C.prim f with
    | some p => simp only [hp] at h ⊢; exact h
    | none =>
      simp only [hp] at h ⊢
      cases hS : C.fn f with
      | none => simp [hS] at h
      | some S =>
        simp only [hS] at h ⊢
        unfold runBody at h ⊢
        split at h
        · rename_i hl
          rw [if_pos hl]
          cases he : evalCode C.gl (evalFn C n) n S.code { env := numbered 0 a, cells := s } with
          | none => simp [he] at h
          | some r => rw [evalCode_mono (evalFn_mono1 C n) (by omega) he]; simp only [he] at h; exact h
        · simp at h

theorem evalFn_mono (C : Cfg) {n n' : Nat} (h : n ≤ n') : (evalFn C n).le (evalFn C n') := by
  induction h with
  | refl => exact fun _ _ _ _ h => h
  | step _ ih => exact fun f a s x hx => evalFn_mono1 C _ f a s x (ih f a s x hx)

/-! ## The limit -/
open Classical in
noncomputable def lim {α : Type} (F : Nat → Option α) : Option α := if h : ∃ n x, F n = some x then F h.choose else none

theorem lim_some {α : Type} {F : Nat → Option α} (hm : ∀ n n' x, n ≤ n' → F n = some x → F n' = some x) {x : α} : lim F = some x ↔ ∃ n, F n = some x := by
  constructor
  · intro h
    unfold lim at h
    split at h
    · exact ⟨_, h⟩
    · simp at h
  · rintro ⟨n, hn⟩
    have hex : ∃ n x, F n = some x := ⟨n, x, hn⟩
    unfold lim
    rw [dif_pos hex]
    obtain ⟨y, hy⟩ := hex.choose_spec
    have h1 := hm _ (max n hex.choose) _ (by omega) hy
    have h2 := hm _ (max n hex.choose) _ (by omega) hn
    rw [hy, ← h1, h2]

noncomputable def ev (C : Cfg) : CallF := fun f args cells => lim fun n => evalFn C n f args cells

theorem ev_some {C : Cfg} {f : FuncId} {args : List V} {cells : Cells} {x : V × Cells} : ev C f args cells = some x ↔ ∃ n, evalFn C n f args cells = some x :=
  lim_some (fun _ _ _ h hx => evalFn_mono C h _ _ _ _ hx)

noncomputable def iterL (ks ts : List Nat) (body : St → Option (EX × St)) (σ : St) : Option (EX × St) := lim fun n => iter ks ts body n σ

theorem iterL_some {ks ts : List Nat} {body : St → Option (EX × St)} {σ : St} {r : EX × St} : iterL ks ts body σ = some r ↔ ∃ n, iter ks ts body n σ = some r :=
  lim_some (fun _ _ _ h hx => iter_mono (fun _ _ h => h) h hx)

theorem iterL_step {ks ts : List Nat} {body : St → Option (EX × St)} {σ σ' : St} {r : EX × St} (h : body σ = some (.normal, σ')) (h' : iterL ks ts body (σ'.norm ks ts) = some r) : iterL ks ts body σ = some r := by
  obtain ⟨n, hn⟩ := iterL_some.1 h'
  exact iterL_some.2 ⟨n + 1, by simp only [iter, h]; exact hn⟩

theorem iterL_exit {ks ts : List Nat} {body : St → Option (EX × St)} {σ σ' : St} {j : Nat} (h : body σ = some (.exit j, σ')) : iterL ks ts body σ = some (.exit j, σ') :=
  iterL_some.2 ⟨1, by simp only [iter, h]⟩

theorem iterL_ret {ks ts : List Nat} {body : St → Option (EX × St)} {σ σ' : St} (h : body σ = some (.ret, σ')) : iterL ks ts body σ = some (.ret, σ') :=
  iterL_some.2 ⟨1, by simp only [iter, h]⟩

noncomputable def evalL (gl : Nat → Option D) (call : CallF) : SCode → St → Option (EX × St)
  | .skip, σ => some (.normal, σ)
  | .region id ops _ chk drop, σ => match chk with
    | [] => match steps gl call id 0 ops σ with
      | some σ' => some (.normal, { σ' with env := σ'.env.drop drop })
      | none => none
    | c :: cs => match stepsI gl call id 0 ops σ with
      | some (σ', is) => if (c :: cs).all (fun p => indepAt is p.1 p.2) = true then some (.normal, { σ' with env := σ'.env.drop drop }) else none
      | none => none
  | .seq a b, σ => match evalL gl call a σ with
    | some (.normal, σ') => evalL gl call b σ'
    | r => r
  | .cond c x y, σ => match σ.val gl c with
    | .d (.bool true) => evalL gl call x σ
    | .d (.bool false) => evalL gl call y σ
    | _ => none
  | .block id c, σ => match evalL gl call c σ with
    | some (.exit j, σ') => if j = id then some (.normal, σ') else some (.exit j, σ')
    | r => r
  | .loop c, σ => iterL (σ.env.map Prod.fst) (σ.cells.map Prod.fst) (evalL gl call c) σ
  | .exit id, σ => some (.exit id, σ)
  | .ret, σ => some (.ret, σ)
  | .bad, _ => none

noncomputable def bodyL (gl : Nat → Option D) (call : CallF) (S : SFunc) (args : List V) (cells : Cells) : Option (V × Cells) :=
  if args.length = S.nparams then
    match evalL gl call S.code { env := numbered 0 args, cells := cells } with
    | some (.normal, σ) | some (.ret, σ) => result S.results σ
    | _ => none
  else none

theorem stepE_lim {C : Cfg} {gl : Nat → Option D} {T : Nat} {o : SOpr} {σ : St} {e : Eff} (h : stepE gl (ev C) T o σ = some e) : ∃ n, ∀ m, n ≤ m → stepE gl (evalFn C m) T o σ = some e := by
  rcases stepE_of h with h | ⟨f, as, cs, x, h1, h2⟩
  · exact ⟨0, fun m _ => h _⟩
  · obtain ⟨n, hn⟩ := ev_some.1 h1
    exact ⟨n, fun m hm => h2 _ (evalFn_mono C hm _ _ _ _ hn)⟩

theorem steps_lim {C : Cfg} {gl : Nat → Option D} {id : Nat} : ∀ {l : List SOpr} {i : Nat} {σ τ : St}, steps gl (ev C) id i l σ = some τ → ∃ n, ∀ m, n ≤ m → steps gl (evalFn C m) id i l σ = some τ
  | [], _, _, _, h => ⟨0, fun _ _ => h⟩
  | o :: l, i, σ, τ, h => by
    simp only [steps] at h
    cases he : stepE gl (ev C) (tagOf id i) o σ with
    | none => simp [he] at h
    | some e =>
      simp only [he] at h
      obtain ⟨n1, h1⟩ := stepE_lim he
      obtain ⟨n2, h2⟩ := steps_lim h
      exact ⟨max n1 n2, fun m hm => by simp only [steps, h1 m (by omega)]; exact h2 m (by omega)⟩

theorem stepsI_lim {C : Cfg} {gl : Nat → Option D} {id : Nat} : ∀ {l : List SOpr} {i : Nat} {σ : St} {r : St × List Info}, stepsI gl (ev C) id i l σ = some r → ∃ n, ∀ m, n ≤ m → stepsI gl (evalFn C m) id i l σ = some r
  | [], _, _, _, h => ⟨0, fun _ _ => h⟩
  | o :: l, i, σ, r, h => by
    simp only [stepsI] at h
    cases he : stepE gl (ev C) (tagOf id i) o σ with
    | none => simp [he] at h
    | some e =>
      simp only [he] at h
      cases hs : stepsI gl (ev C) id (i + 1) l (σ.put o.dst e) with
      | none => simp [hs] at h
      | some q =>
        simp only [hs] at h
        obtain ⟨n1, h1⟩ := stepE_lim he
        obtain ⟨n2, h2⟩ := stepsI_lim hs
        exact ⟨max n1 n2, fun m hm => by simp only [stepsI, h1 m (by omega), h2 m (by omega)]; exact h⟩

theorem evalL_lim {C : Cfg} {gl : Nat → Option D} : ∀ {s : SCode} {σ : St} {r : EX × St}, evalL gl (ev C) s σ = some r → ∃ n, ∀ m, n ≤ m → evalCode gl (evalFn C m) m s σ = some r := by
  intro s
  induction s with
  | skip => intro σ r h; exact ⟨0, fun _ _ => h⟩
  | region id ops draw chk drop =>
    intro σ r h
    simp only [evalL] at h
    simp only [evalCode]
    split at h
    · cases hs : steps gl (ev C) id 0 ops σ with
      | none => simp [hs] at h
      | some τ =>
        simp only [hs] at h
        obtain ⟨n, hn⟩ := steps_lim hs
        exact ⟨n, fun m hm => by simp only [hn m hm]; exact h⟩
    · cases hs : stepsI gl (ev C) id 0 ops σ with
      | none => simp [hs] at h
      | some τ =>
        simp only [hs] at h
        obtain ⟨n, hn⟩ := stepsI_lim hs
        exact ⟨n, fun m hm => by simp only [hn m hm]; exact h⟩
  | seq a b iha ihb =>
    intro σ r h
    simp only [evalL] at h
    simp only [evalCode]
    cases hs : evalL gl (ev C) a σ with
    | none => simp [hs] at h
    | some p =>
      obtain ⟨x, σ'⟩ := p
      simp only [hs] at h
      obtain ⟨n1, h1⟩ := iha hs
      cases x with
      | normal =>
        obtain ⟨n2, h2⟩ := ihb h
        exact ⟨max n1 n2, fun m hm => by simp only [h1 m (by omega)]; exact h2 m (by omega)⟩
      | exit j => exact ⟨n1, fun m hm => by simp only [h1 m hm]; exact h⟩
      | ret => exact ⟨n1, fun m hm => by simp only [h1 m hm]; exact h⟩
  | cond x a b iha ihb =>
    intro σ r h
    simp only [evalL] at h
    simp only [evalCode]
    split at h
    · rename_i hb; obtain ⟨n, hn⟩ := iha h; exact ⟨n, fun m hm => by rw [hb]; exact hn m hm⟩
    · rename_i hb; obtain ⟨n, hn⟩ := ihb h; exact ⟨n, fun m hm => by rw [hb]; exact hn m hm⟩
    · simp at h
  | block id a iha =>
    intro σ r h
    simp only [evalL] at h
    simp only [evalCode]
    cases hs : evalL gl (ev C) a σ with
    | none => simp [hs] at h
    | some p =>
      simp only [hs] at h
      obtain ⟨n, hn⟩ := iha hs
      exact ⟨n, fun m hm => by simp only [hn m hm]; exact h⟩
  | loop a iha =>
    intro σ r h
    simp only [evalL] at h
    simp only [evalCode]
    obtain ⟨k, hk⟩ := iterL_some.1 h
    have key : ∀ (ks ts : List Nat) (k : Nat) (σ : St), iter ks ts (evalL gl (ev C) a) k σ = some r → ∃ n, ∀ m, n ≤ m → iter ks ts (evalCode gl (evalFn C m) m a) k σ = some r := by
      intro ks ts k
      induction k with
      | zero => intro σ h; simp [iter] at h
      | succ k ihk =>
        intro σ h
        simp only [iter] at h
        cases hs : evalL gl (ev C) a σ with
        | none => simp [hs] at h
        | some p =>
          obtain ⟨x, σ'⟩ := p
          simp only [hs] at h
          obtain ⟨n1, h1⟩ := iha hs
          cases x with
          | normal =>
            obtain ⟨n2, h2⟩ := ihk _ h
            exact ⟨max n1 n2, fun m hm => by simp only [iter, h1 m (by omega)]; exact h2 m (by omega)⟩
          | exit j => exact ⟨n1, fun m hm => by simp only [iter, h1 m hm]; exact h⟩
          | ret => exact ⟨n1, fun m hm => by simp only [iter, h1 m hm]; exact h⟩
    obtain ⟨n, hn⟩ := key _ _ k σ hk
    exact ⟨max n k, fun m hm => iter_mono (fun _ _ h => h) (by omega) (hn m (by omega))⟩
  | exit id => intro σ r h; exact ⟨0, fun _ _ => h⟩
  | ret => intro σ r h; exact ⟨0, fun _ _ => h⟩
  | bad => intro σ r h; simp [evalL] at h

/-- A function of the program. -/
theorem ev_fn {C : Cfg} {f : FuncId} {S : SFunc} {args : List V} {cells : Cells} {x : V × Cells} (hp : C.prim f = none) (hS : C.fn f = some S) (h : bodyL C.gl (ev C) S args cells = some x) : ev C f args cells = some x := by
  unfold bodyL at h
  split at h
  · rename_i hl
    cases he : evalL C.gl (ev C) S.code { env := numbered 0 args, cells := cells } with
    | none => simp [he] at h
    | some r =>
      simp only [he] at h
      obtain ⟨n, hn⟩ := evalL_lim he
      refine ev_some.2 ⟨n + 1, ?_⟩
      simp only [evalFn, hp, hS]
      unfold runBody
      rw [if_pos hl, hn n (Nat.le_refl n)]
      exact h
  · simp at h

theorem ev_prim {C : Cfg} {f : FuncId} {p : List V → Cells → Option (V × Cells)} (hp : C.prim f = some p) {args : List V} {cells : Cells} {x : V × Cells} (h : p args cells = some x) : ev C f args cells = some x :=
  ev_some.2 ⟨1, by simp only [evalFn, hp]; exact h⟩

theorem ev_ok {P : Program} {C : Cfg} (hC : C.Ok P) : CallOk P C.gl (ev C) := by
  intro f args cells r cells' h
  obtain ⟨n, hn⟩ := ev_some.1 h
  exact evalFn_ok hC n f args cells r cells' hn

end Go.Ev
end
