/- A verified evaluator of loaded functions, part KC: what it computes, the machine does. Plain texts joined. -/
import Derived.Test.YtglggojbbenobaaGreatDoorKB
import Derived.Below
import Derived.Lib.Join
import Derived.Lib.Fields
import Derived.Lib.IndexMore
import Derived.Lib.Bytealg
import Derived.Lib.ItoaNum
import Derived.Lib.AtoiAll
import Derived.Carry
import Derived.OpenVars
import Derived.ChangeSame
import Derived.OpenShut
import Derived.RowKit
set_option linter.all false

/- The evaluator's rules as rewriting. -/
section
namespace Go.Ev

attribute [simp] bodyL tagOf steps stepE wants evalOp okEff St.val St.put St.get Env.set Env.get assoc numbered killE killC Env.kill Cells.kill Cells.set Cells.setAll Env.drop
  frzM fzwM SRes.isRaw srcB eqDs binV intBin strBin unV eqV isShift result resultsOf V.frzL V.frz V.mk fzw frzWr addNew V.ftagsL V.ftags V.refs V.refsL asIdx optIdx slView mpView keyAt keyFits keyEq toD toDL fits V.flat V.size V.sizes
  setParts ldV stV V.at V.setAt V.kids V.kill V.killL Cell.kill srcOf D.size D.sizes St.norm keepKeys envRefs refsAt Cell.refs

section
variable {k : IntKind} {n : Int} {b : Bool} {s : List UInt8} {l ks vs : List D} {x : D} {u : List V} {t o i z : Nat} {p : List Nat} {f : FuncId}
@[simp] theorem isAgg_int : (D.int k n).isAgg = false := rfl
@[simp] theorem isAgg_bool : (D.bool b).isAgg = false := rfl
@[simp] theorem isAgg_str : (D.str s).isAgg = false := rfl
@[simp] theorem isAgg_sl : (D.sl l).isAgg = false := rfl
@[simp] theorem isAgg_agg : (D.agg l).isAgg = true := rfl
@[simp] theorem isAgg_nilptr : D.nilptr.isAgg = false := rfl
@[simp] theorem isAgg_nilif : D.nilif.isAgg = false := rfl
@[simp] theorem isAgg_nilfn : D.nilfn.isAgg = false := rfl
@[simp] theorem isAgg_nilmap : D.nilmap.isAgg = false := rfl
@[simp] theorem isAgg_err : D.err.isAgg = false := rfl
@[simp] theorem isAgg_fn : (D.fn f).isAgg = false := rfl
@[simp] theorem isAgg_map : (D.map ks vs).isAgg = false := rfl
@[simp] theorem isAggV_d : (V.d x).isAgg = x.isAgg := rfl
@[simp] theorem isAggV_agg : (V.agg u).isAgg = true := rfl
@[simp] theorem isAggV_nils : V.nils.isAgg = false := rfl
@[simp] theorem isAggV_own : (V.own t).isAgg = false := rfl
@[simp] theorem isAggV_mp : (V.mp t).isAgg = false := rfl
@[simp] theorem isAggV_ptr : (V.ptr t o p).isAgg = false := rfl
@[simp] theorem isAggV_eptr : (V.eptr t i z o p).isAgg = false := rfl
@[simp] theorem isAggV_sptr : (V.sptr t i).isAgg = false := rfl
@[simp] theorem isAggV_fref : (V.fref x).isAgg = false := rfl
@[simp] theorem isAggV_clo : (V.clo f u).isAgg = false := rfl
end

section
variable {sz i : Nat} {x : D} {l : List D}
@[simp] theorem slotAt_nil : slotAt sz [] i = true := by simp [slotAt]
@[simp] theorem slotAt_zero : slotAt sz (x :: l) 0 = (x.size == sz) := rfl
@[simp] theorem slotAt_succ : slotAt sz (x :: l) (i + 1) = slotAt sz l i := by simp [slotAt]
@[simp] theorem slotHead_nil : slotHead sz [] = true := rfl
@[simp] theorem slotHead_cons : slotHead sz (x :: l) = (x.size == sz) := rfl
theorem slotAt_map {α : Type} {f : α → D} (h : ∀ a, (f a).size = sz) (l : List α) : slotAt sz (l.map f) i = true := by
  unfold slotAt; rw [List.getElem?_map]; cases l[i]? <;> simp [h]
theorem slotHead_map {α : Type} {f : α → D} (h : ∀ a, (f a).size = sz) (l : List α) : slotHead sz (l.map f) = true := by
  cases l <;> simp [slotHead, h]
@[simp] theorem slotAt_str (l : List (List UInt8)) : slotAt 1 (l.map D.str) i = true := slotAt_map (fun a => by simp) l
@[simp] theorem slotAt_int (k : IntKind) (l : List Int) : slotAt 1 (l.map (D.int k)) i = true := slotAt_map (fun a => by simp) l
@[simp] theorem slotHead_str (l : List (List UInt8)) : slotHead 1 (l.map D.str) = true := slotHead_map (fun a => by simp) l
@[simp] theorem slotHead_int (k : IntKind) (l : List Int) : slotHead 1 (l.map (D.int k)) = true := slotHead_map (fun a => by simp) l
end

/-- A loop, from a state. -/
noncomputable def loopL (gl : Nat → Option D) (call : CallF) (c : SCode) (ks ts : List Nat) (σ : St) : Option (EX × St) := iterL ks ts (evalL gl call c) σ

section
variable {gl : Nat → Option D} {call : CallF} {σ σ' : St} {c a b : SCode} {ks ts : List Nat} {r : EX × St}
@[simp] theorem evalL_skip : evalL gl call .skip σ = some (.normal, σ) := rfl
@[simp] theorem evalL_region {id : Nat} {ops : List SOpr} {dr : Bool} {drop : List Nat} : evalL gl call (.region id ops dr [] drop) σ = match steps gl call id 0 ops σ with
      | some σ' => some (.normal, { σ' with env := σ'.env.drop drop })
      | none => none := rfl
@[simp] theorem evalL_regionI {id : Nat} {ops : List SOpr} {dr : Bool} {p : Nat × Nat} {ps : List (Nat × Nat)} {drop : List Nat} : evalL gl call (.region id ops dr (p :: ps) drop) σ = match stepsI gl call id 0 ops σ with
      | some (σ', is) => if (p :: ps).all (fun p => indepAt is p.1 p.2) = true then some (.normal, { σ' with env := σ'.env.drop drop }) else none
      | none => none := rfl
@[simp] theorem evalL_seq : evalL gl call (.seq a b) σ = match evalL gl call a σ with
    | some (.normal, σ') => evalL gl call b σ'
    | r => r := rfl
@[simp] theorem evalL_cond {x : X} : evalL gl call (.cond x a b) σ = match σ.val gl x with
    | .d (.bool true) => evalL gl call a σ
    | .d (.bool false) => evalL gl call b σ
    | _ => none := rfl
@[simp] theorem evalL_block {id : Nat} : evalL gl call (.block id c) σ = match evalL gl call c σ with
    | some (.exit j, σ') => if j = id then some (.normal, σ') else some (.exit j, σ')
    | r => r := rfl
@[simp] theorem evalL_loop : evalL gl call (.loop c) σ = loopL gl call c (σ.env.map Prod.fst) (σ.cells.map Prod.fst) σ := rfl
@[simp] theorem evalL_exit {id : Nat} : evalL gl call (.exit id) σ = some (.exit id, σ) := rfl
@[simp] theorem evalL_ret : evalL gl call .ret σ = some (.ret, σ) := rfl

theorem loopL_step (h : evalL gl call c σ = some (.normal, σ')) (h' : loopL gl call c ks ts (σ'.norm ks ts) = some r) : loopL gl call c ks ts σ = some r := iterL_step h h'
theorem loopL_exit {j : Nat} (h : evalL gl call c σ = some (.exit j, σ')) : loopL gl call c ks ts σ = some (.exit j, σ') := iterL_exit h
theorem loopL_ret (h : evalL gl call c σ = some (.ret, σ')) : loopL gl call c ks ts σ = some (.ret, σ') := iterL_ret h
end

/-! ## Values with no references -/
mutual
theorem V.ren_none (σ : List (Nat × Nat)) : ∀ (v : V), v.refs = [] → v.ren σ = v
  | .d x, h => rfl
  | .nils, h => rfl
  | .own t, h => by simp [V.refs] at h
  | .mp t, h => by simp [V.refs] at h
  | .ptr t o p, h => by simp [V.refs] at h
  | .eptr t i s o p, h => by simp [V.refs] at h
  | .sptr t n, h => by simp [V.refs] at h
  | .fref x, h => rfl
  | .agg l, h => by simp only [V.ren]; rw [V.renL_none σ l (by simpa [V.refs] using h)]
  | .clo f l, h => by simp only [V.ren]; rw [V.renL_none σ l (by simpa [V.refs] using h)]
  | .tup l, h => by simp only [V.ren]; rw [V.renL_none σ l (by simpa [V.refs] using h)]
  | .skp, h => rfl
  | .und, h => rfl
theorem V.renL_none (σ : List (Nat × Nat)) : ∀ (l : List V), V.refsL l = [] → V.renL σ l = l
  | [], h => rfl
  | x :: l, h => by
    simp only [V.refsL, List.append_eq_nil_iff] at h
    simp only [V.renL]
    rw [V.ren_none σ x h.1, V.renL_none σ l h.2]
end

theorem reach_nil (g : Nat → Option Cell) : reach g [] = some [] := rfl

/-- A call that is handed data alone, and gives data back. -/
theorem callEff_data {call : CallF} {T : Nat} {f : FuncId} {args as : List V} {get : Nat → Option Cell} {r : V} {cs : Cells}
    (h1 : V.frzL get args = some as) (h2 : V.refsL as = []) (h3 : call f as [] = some (r, cs)) (h4 : r.refs = []) :
    callEff call false T f args get = some { res := r, wr := fzw get args } := by
  unfold callEff frzM fzwM
  simp only [h1, h2, reach_nil, pass, V.renL_none _ as h2, h3, h4, List.length_nil, List.range_zero, List.append_nil, without, List.filter_nil, numbered, swapped, V.ren_none _ r h4, noVars, newTags]
  simp

end Go.Ev
end

/- Library functions that leave the cells alone. -/
section
namespace Go.Ev
open Go.RowKit (Below)
variable {P : Program} {gl : Nat → Option D} {H : Imm} {B : Bind} {w w' : World} {cells : Cells}

/-- What is frozen behind a call that made new memory. -/
def newH (H : Imm) (w w' : World) : Imm := fun b => if b < w.heap.size then H b else w'.heap[b]?

theorem Begins.imm (h : Begins H B w cells) : ∀ b o, H b = some o → w.heap[b]? = some o := Inv.imm h

theorem newH_le (hi : ∀ b o, H b = some o → w.heap[b]? = some o) : H.le (newH H w w') := by
  intro b o h
  have : b < w.heap.size := (Array.getElem?_eq_some_iff.1 (hi b o h)).1
  unfold newH
  rw [if_pos this]; exact h

/-- A call that turns nothing that was there. -/
theorem ends_below (hb : Begins H B w cells) (hw : Below w.heap.size w w') {r : V} {v : Value} (hr : RVv (newH H w w') B r v) : Ends H B w cells r cells (.returned v) w' := by
  have hle : H.le (newH H w w') := newH_le hb.imm
  have lift : ∀ {t : Nat} {c : Cell}, CellOk H B w t c → CellOk (newH H w w') B w' t c := by
    intro t c h
    have heap : ∀ {b : Nat} {o : Obj}, w.heap[b]? = some o → w'.heap[b]? = some o := by
      intro b o ho
      rw [hw.block b (Array.getElem?_eq_some_iff.1 ho).1]; exact ho
    cases c with
    | var e x => obtain ⟨b, c, h1, h2, h3⟩ := h; exact ⟨b, c, h1, heap h2, h3.mono hle (fun _ _ => rfl)⟩
    | row e sz l =>
      rcases h with h | ⟨b, cap, c, cs, post, h1, h2, h3, h4, h5, h6, h7⟩
      · exact .inl h
      · exact .inr ⟨b, cap, c, cs, post, h1, heap h2, h3, h4.mono hle, h5, h6, h7⟩
    | map ks vs => obtain ⟨b, es, clk, h1, h2, hwf, h3, h4⟩ := h; exact ⟨b, es, clk, h1, heap h2, hwf, h3.mono hle, h4.mono hle⟩
    | frz x => exact RD.mono hle h
    | iter s pos => obtain ⟨b, h1, h2⟩ := h; exact ⟨b, h1, heap h2⟩
  refine ⟨v, newH H w w', B, rfl, hr, ?_⟩
  exact {
    size := hb.size
    defers := hb.defers
    env := fun s => by show RVv (newH H w w') B (Env.get [] s) _; exact .und _
    cells := fun t c hc => lift (hb.cells t c hc)
    sep := fun t c b hc hl hk => by
      obtain ⟨h1, h2⟩ := hb.sep t c b hc hl hk
      have hlt := (hb.cells t c hc).lt hl hk
      refine ⟨?_, h2⟩
      unfold newH
      rw [if_pos hlt]; exact h1
    apart := hb.apart
    imm := fun b o h => by
      unfold newH at h
      split at h
      · rename_i hlt; rw [hw.block b hlt]; exact hb.imm b o h
      · exact h
    le := hle
    fromH := fun b o h => by
      unfold newH at h
      split at h
      · exact .inl ⟨o, h⟩
      · rename_i hlt; exact .inr (.inr (by omega))
    frame := fun b hlt _ => hw.block b hlt
    grow := hw.size
    os := hw.os
    tape := hw.tape
    output := hw.output
    keep := hb.keep }

theorem prim_below {f : FuncId} {p : List V → Cells → Option (V × Cells)} (hbody : HasBody P f)
    (h : ∀ args cells r cells', p args cells = some (r, cells') → cells' = cells ∧
      ∀ H B w argv, GlOk gl H → (∀ b o, H b = some o → w.heap[b]? = some o) → RVvs H B args argv →
        Calls P f argv.toArray w (fun e w' => ∃ v, e = .returned v ∧ Below w.heap.size w w' ∧ RVv (newH H w w') B r v)) : PrimOk P gl f p := by
  intro args cells r cells' hp
  obtain ⟨rfl, hc⟩ := h args cells r cells' hp
  refine ⟨hbody, fun H B w argv G hargs hbeg => ?_⟩
  refine (hc H B w argv G hbeg.imm hargs).mono ?_
  rintro e w' ⟨v, rfl, hw, hr⟩
  exact ends_below hbeg hw hr

/-- A function from data to data. -/
def pureP (f : List V → Option V) : List V → Cells → Option (V × Cells) := fun args cells => (f args).map fun r => (r, cells)

theorem prim_pure {f : FuncId} {p : List V → Option V} (hbody : HasBody P f)
    (h : ∀ args r, p args = some r → ∀ H B w argv, GlOk gl H → (∀ b o, H b = some o → w.heap[b]? = some o) → RVvs H B args argv →
        Calls P f argv.toArray w (fun e w' => ∃ v, e = .returned v ∧ Below w.heap.size w w' ∧ RVv (newH H w w') B r v)) : PrimOk P gl f (pureP p) := by
  refine prim_below hbody (fun args cells r cells' hp => ?_)
  unfold pureP at hp
  cases hq : p args with
  | none => simp [hq] at hp
  | some r' =>
    simp only [hq, Option.map_some, Option.some.injEq, Prod.mk.injEq] at hp
    obtain ⟨rfl, rfl⟩ := hp
    exact ⟨rfl, h args r' hq⟩

end Go.Ev
end

/- Library functions on strings and numbers, from their contracts. -/
section
namespace Go.Ev
open Go.RowKit (Below)
variable {P : Program} {gl : Nat → Option D} {f : FuncId}

/-- What a contract may lean on. -/
def Fine (gl : Nat → Option D) (H : Imm) (w : World) : Prop := GlOk gl H ∧ ∀ b o, H b = some o → w.heap[b]? = some o

def p1 (ok : List UInt8 → Bool) (g : List UInt8 → V) : List V → Option V
  | [.d (.str a)] => if ok a then some (g a) else none
  | _ => none

def p2 (ok : List UInt8 → List UInt8 → Bool) (g : List UInt8 → List UInt8 → V) : List V → Option V
  | [.d (.str a), .d (.str b)] => if ok a b then some (g a b) else none
  | _ => none

def pI (k : IntKind) (ok : Int → Bool) (g : Int → V) : List V → Option V
  | [.d (.int k' n)] => if k' = k ∧ ok n = true then some (g n) else none
  | _ => none

def pSI (k : IntKind) (ok : List UInt8 → Int → Bool) (g : List UInt8 → Int → V) : List V → Option V
  | [.d (.str a), .d (.int k' n)] => if k' = k ∧ ok a n = true then some (g a n) else none
  | _ => none

theorem prim_p1 {ok : List UInt8 → Bool} {g : List UInt8 → V} (hbody : HasBody P f)
    (h : ∀ (s : ByteArray) (w : World) (H : Imm) (B : Bind), Fine gl H w → ok s.data.toList = true → Calls P f #[.string s] w (fun e w' => ∃ v, e = .returned v ∧ Below w.heap.size w w' ∧ RVv (newH H w w') B (g s.data.toList) v)) : PrimOk P gl f (pureP (p1 ok g)) := by
  refine prim_pure hbody (fun args r hp H B w argv G hi hargs => ?_)
  unfold p1 at hp
  split at hp
  · rename_i a
    split at hp
    · rename_i hok
      simp only [Option.some.injEq] at hp; subst hp
      cases hargs with
      | cons h1 h2 => cases h2; rw [h1.str_inv]; exact h ⟨⟨a⟩⟩ w H B ⟨G, hi⟩ hok
    · simp at hp
  · simp at hp

theorem prim_p2 {ok : List UInt8 → List UInt8 → Bool} {g : List UInt8 → List UInt8 → V} (hbody : HasBody P f)
    (h : ∀ (s t : ByteArray) (w : World) (H : Imm) (B : Bind), Fine gl H w → ok s.data.toList t.data.toList = true → Calls P f #[.string s, .string t] w (fun e w' => ∃ v, e = .returned v ∧ Below w.heap.size w w' ∧ RVv (newH H w w') B (g s.data.toList t.data.toList) v)) :
    PrimOk P gl f (pureP (p2 ok g)) := by
  refine prim_pure hbody (fun args r hp H B w argv G hi hargs => ?_)
  unfold p2 at hp
  split at hp
  · rename_i a b
    split at hp
    · rename_i hok
      simp only [Option.some.injEq] at hp; subst hp
      cases hargs with
      | cons h1 h2 => cases h2 with
        | cons h2 h3 => cases h3; rw [h1.str_inv, h2.str_inv]; exact h ⟨⟨a⟩⟩ ⟨⟨b⟩⟩ w H B ⟨G, hi⟩ hok
    · simp at hp
  · simp at hp

theorem prim_pI {k : IntKind} {ok : Int → Bool} {g : Int → V} (hbody : HasBody P f)
    (h : ∀ (n : Int) (w : World) (H : Imm) (B : Bind), Fine gl H w → ok n = true → Calls P f #[.int k n] w (fun e w' => ∃ v, e = .returned v ∧ Below w.heap.size w w' ∧ RVv (newH H w w') B (g n) v)) : PrimOk P gl f (pureP (pI k ok g)) := by
  refine prim_pure hbody (fun args r hp H B w argv G hi hargs => ?_)
  unfold pI at hp
  split at hp
  · rename_i k' n
    split at hp
    · rename_i hok
      obtain ⟨rfl, hok⟩ := hok
      simp only [Option.some.injEq] at hp; subst hp
      cases hargs with
      | cons h1 h2 => cases h2; rw [h1.int_inv]; exact h n w H B ⟨G, hi⟩ hok
    · simp at hp
  · simp at hp

theorem prim_pSI {k : IntKind} {ok : List UInt8 → Int → Bool} {g : List UInt8 → Int → V} (hbody : HasBody P f)
    (h : ∀ (s : ByteArray) (n : Int) (w : World) (H : Imm) (B : Bind), Fine gl H w → ok s.data.toList n = true → Calls P f #[.string s, .int k n] w (fun e w' => ∃ v, e = .returned v ∧ Below w.heap.size w w' ∧ RVv (newH H w w') B (g s.data.toList n) v)) :
    PrimOk P gl f (pureP (pSI k ok g)) := by
  refine prim_pure hbody (fun args r hp H B w argv G hi hargs => ?_)
  unfold pSI at hp
  split at hp
  · rename_i a k' n
    split at hp
    · rename_i hok
      obtain ⟨rfl, hok⟩ := hok
      simp only [Option.some.injEq] at hp; subst hp
      cases hargs with
      | cons h1 h2 => cases h2 with
        | cons h2 h3 => cases h3; rw [h1.str_inv, h2.int_inv]; exact h ⟨⟨a⟩⟩ n w H B ⟨G, hi⟩ hok
    · simp at hp
  · simp at hp

theorem rv_int {H : Imm} {B : Bind} (k : IntKind) (n : Int) : RVv H B (.d (.int k n)) (.int k n) := .one rfl (.d (.int k n))
theorem rv_bool {H : Imm} {B : Bind} (b : Bool) : RVv H B (.d (.bool b)) (.bool b) := .one rfl (.d (.bool b))
theorem rv_str {H : Imm} {B : Bind} (s : List UInt8) : RVv H B (.d (.str s)) (.string ⟨s.toArray⟩) := .one rfl (.d (.str s))

theorem RDs_strs {H : Imm} : ∀ (l : List (List UInt8)), RDs H (l.map .str) (l.map fun s => Value.string ⟨s.toArray⟩)
  | [] => .nil
  | s :: l => .cons (cs := [.string ⟨s.toArray⟩]) (.str s) (RDs_strs l)

/-- A new slice of strings. -/
theorem rv_strs {H : Imm} {B : Bind} {w : World} {e : TypeId} (l : List (List UInt8)) :
    RVv (newH H w (w.alloc (.cells (l.map fun s => Value.string ⟨s.toArray⟩).toArray e))) B (.d (.sl (l.map .str))) (.slice (some ⟨w.heap.size, 0, none⟩) l.length l.length) := by
  have : RD (newH H w (w.alloc (.cells (l.map fun s => Value.string ⟨s.toArray⟩).toArray e))) (.sl (l.map .str)) [.slice (some ⟨w.heap.size, 0, none⟩) ((l.map D.str).length : Nat) l.length] :=
    .sl (c := (l.map fun s => Value.string ⟨s.toArray⟩).toArray) (e := e) (fr := (0, 0)) (pre := []) (post := []) (sz := 1) (by
      unfold newH
      rw [if_neg (by simp)]
      exact heap_alloc_new w _) rfl (by simp) rfl (RDs_strs l) (by simp) (by simp)
  rw [List.length_map] at this
  exact .one rfl (.d this)

/-! ## The functions -/
def short (s : List UInt8) : Bool := Nat.ble s.length 4294967280

theorem short_le {s : List UInt8} (h : short s = true) : s.length ≤ 4294967280 := by simpa [short] using h

def one1 : List UInt8 → List UInt8 → Bool
  | _, [_] => true
  | _, _ => false

section
variable (hbody : HasBody P f)
include hbody

theorem prim_indexByte (h : ∀ (s : ByteArray) (c : Int) (w : World), Calls P f #[.string s, .int .u8 c] w fun e w' => e = .returned (.int .i64 (Lib.indexByte s.data.toList c.toNat.toUInt8)) ∧ w' = w) :
    PrimOk P gl f (pureP (pSI .u8 (fun _ _ => true) fun s c => .d (.int .i64 (Lib.indexByte s c.toNat.toUInt8)))) :=
  prim_pSI hbody fun s n w H B _ _ => (h s n w).mono (by rintro e w' ⟨rfl, rfl⟩; exact ⟨_, rfl, Below.refl _ _, rv_int _ _⟩)

theorem prim_hasSuffix (h : ∀ (s p : ByteArray) (w : World), s.size ≤ 9223372036854775807 → Calls P f #[.string s, .string p] w fun e w' => e = .returned (.bool (Lib.hasSuffix s.data.toList p.data.toList)) ∧ w' = w) :
    PrimOk P gl f (pureP (p2 (fun s _ => short s) fun s p => .d (.bool (Lib.hasSuffix s p)))) :=
  prim_p2 hbody fun s t w H B _ ok => (h s t w (by
    have := short_le ok
    have h2 : s.size = s.data.toList.length := (Array.length_toList).symm
    omega)).mono (by rintro e w' ⟨rfl, rfl⟩; exact ⟨_, rfl, Below.refl _ _, rv_bool _⟩)

theorem prim_hasPrefix (h : ∀ (s p : ByteArray) (w : World), Calls P f #[.string s, .string p] w fun e w' => e = .returned (.bool (Lib.hasPrefix s.data.toList p.data.toList)) ∧ w' = w) :
    PrimOk P gl f (pureP (p2 (fun _ _ => true) fun s p => .d (.bool (Lib.hasPrefix s p)))) :=
  prim_p2 hbody fun s t w H B _ _ => (h s t w).mono (by rintro e w' ⟨rfl, rfl⟩; exact ⟨_, rfl, Below.refl _ _, rv_bool _⟩)

theorem prim_countOne (h : ∀ (s : ByteArray) (c : UInt8) (w : World), Calls P f #[.string s, .string ⟨#[c]⟩] w fun e w' => e = .returned (.int .i64 (Lib.countByte s.data.toList c)) ∧ w' = w) :
    PrimOk P gl f (pureP (p2 one1 fun s p => .d (.int .i64 (Lib.countByte s (p.headD 0))))) :=
  prim_p2 hbody fun s t w H B _ ok => by
    obtain ⟨⟨t⟩⟩ := t
    match t, ok with
    | [c], _ => exact (h s c w).mono (by rintro e w' ⟨rfl, rfl⟩; exact ⟨_, rfl, Below.refl _ _, rv_int _ _⟩)

theorem prim_itoa (h : ∀ (n : Int) (w : World) (H : Imm), Fine gl H w → -9223372036854775808 ≤ n → n ≤ 9223372036854775807 → Calls P f #[.int .i64 n] w fun e w' => e = .returned (.string ⟨(Lib.itoa n).toArray⟩) ∧ Below w.heap.size w w') :
    PrimOk P gl f (pureP (pI .i64 (fun n => decide (-9223372036854775808 ≤ n ∧ n ≤ 9223372036854775807)) fun n => .d (.str (Lib.itoa n)))) :=
  prim_pI hbody fun n w H B hF ok => by
    have := of_decide_eq_true ok
    exact (h n w H hF this.1 this.2).mono (by rintro e w' ⟨rfl, hb⟩; exact ⟨_, rfl, hb, rv_str _⟩)

theorem prim_cut (h : ∀ (s sep : ByteArray) (w : World) (H : Imm), Fine gl H w → s.size < 4294967281 → Calls P f #[.string s, .string sep] w fun e w' =>
      e = .returned (.tuple #[.string ⟨(Lib.cut s.data.toList sep.data.toList).1.toArray⟩, .string ⟨(Lib.cut s.data.toList sep.data.toList).2.1.toArray⟩, .bool (Lib.cut s.data.toList sep.data.toList).2.2]) ∧ Below w.heap.size w w') :
    PrimOk P gl f (pureP (p2 (fun s _ => short s) fun s p => .tup [.d (.str (Lib.cut s p).1), .d (.str (Lib.cut s p).2.1), .d (.bool (Lib.cut s p).2.2)])) :=
  prim_p2 hbody fun s t w H B hF ok => (h s t w H hF (by
    have := short_le ok
    have h2 : s.size = s.data.toList.length := (Array.length_toList).symm
    omega)).mono (by rintro e w' ⟨rfl, hb⟩; exact ⟨_, rfl, hb, .tup (.cons (rv_str _) (.cons (rv_str _) (.cons (rv_bool _) .nil)))⟩)

/-- A function that makes a slice of strings. -/
theorem prim_strs2 {ok : List UInt8 → List UInt8 → Bool} {g : List UInt8 → List UInt8 → List (List UInt8)} {e : TypeId} (h : ∀ (s sep : ByteArray) (w : World) (H : Imm), Fine gl H w → ok s.data.toList sep.data.toList = true → Calls P f #[.string s, .string sep] w fun r w' =>
      r = .returned (.slice (some ⟨w.heap.size, 0, none⟩) (g s.data.toList sep.data.toList).length (g s.data.toList sep.data.toList).length) ∧ w' = w.alloc (.cells ((g s.data.toList sep.data.toList).map fun s => Value.string ⟨s.toArray⟩).toArray e)) :
    PrimOk P gl f (pureP (p2 ok fun s p => .d (.sl ((g s p).map .str)))) :=
  prim_p2 hbody fun s t w H B hF hok => (h s t w H hF hok).mono (by rintro r w' ⟨rfl, rfl⟩; exact ⟨_, rfl, Below.alloc (Below.refl _ _) (Nat.le_refl _) _, rv_strs _⟩)

theorem prim_strs1 {ok : List UInt8 → Bool} {g : List UInt8 → List (List UInt8)} {e : TypeId} (h : ∀ (s : ByteArray) (w : World) (H : Imm), Fine gl H w → ok s.data.toList = true → Calls P f #[.string s] w fun r w' =>
      r = .returned (.slice (some ⟨w.heap.size, 0, none⟩) (g s.data.toList).length (g s.data.toList).length) ∧ w' = w.alloc (.cells ((g s.data.toList).map fun s => Value.string ⟨s.toArray⟩).toArray e)) :
    PrimOk P gl f (pureP (p1 ok fun s => .d (.sl ((g s).map .str)))) :=
  prim_p1 hbody fun s w H B hF hok => (h s w H hF hok).mono (by rintro r w' ⟨rfl, rfl⟩; exact ⟨_, rfl, Below.alloc (Below.refl _ _) (Nat.le_refl _) _, rv_strs _⟩)
end

end Go.Ev
end

/- strings.Join and strconv.Atoi, from their contracts. -/
section
namespace Go.Ev
open Go.RowKit (Below)
variable {P : Program} {gl : Nat → Option D} {f : FuncId}

/-- The strings of a slice of strings. -/
def strsOf : List D → Option (List (List UInt8))
  | [] => some []
  | .str s :: l => match strsOf l with
    | some r => some (s :: r)
    | none => none
  | _ => none

theorem strsOf_eq : ∀ {l : List D} {r : List (List UInt8)}, strsOf l = some r → l = r.map .str
  | [], r, h => by simp [strsOf] at h; subst h; rfl
  | x :: l, r, h => by
    cases x <;> simp only [strsOf] at h <;> try (simp at h; done)
    cases hl : strsOf l with
    | none => simp [hl] at h
    | some q => simp only [hl, Option.some.injEq] at h; subst h; rw [strsOf_eq hl]; rfl

theorem strsOf_map : ∀ (r : List (List UInt8)), strsOf (r.map .str) = some r
  | [] => rfl
  | s :: r => by simp [strsOf, strsOf_map r]

def pJoin : List V → Option V
  | [.d (.sl l), .d (.str sep)] => match strsOf l with
    | some xs => if Nat.ble (Lib.join xs sep).length 140737488355328 && Nat.ble xs.length 140737488355328 then some (.d (.str (Lib.join xs sep))) else none
    | none => none
  | _ => none

theorem RDs_strs_inv {H : Imm} : ∀ {r : List (List UInt8)} {cs : List Value}, RDs H (r.map .str) cs → cs = r.map fun s => Value.string ⟨s.toArray⟩
  | [], cs, h => by cases h; rfl
  | s :: r, cs, h => by
    cases h with
    | cons h1 h2 =>
      rw [RDs_strs_inv h2]
      cases h1
      rfl

theorem prim_join (hbody : HasBody P f)
    (h0 : ∀ (a : Option Addr) (c : Nat) (sep : ByteArray) (w : World), Calls P f #[.slice a 0 c, .string sep] w fun e w' => e = .returned (.string ⟨#[]⟩) ∧ w' = w)
    (h : ∀ (bk o c : Nat) (xs : List ByteArray) (sep : ByteArray) (w : World), (∀ (j : Nat) x, xs[j]? = some x → w.cell? ⟨bk, o + j, none⟩ = some (.string x)) → bk < w.heap.size → xs.length ≤ 140737488355328 → xs.length ≤ c → (Lib.join (xs.map (·.data.toList)) sep.data.toList).length ≤ 140737488355328 →
      Calls P f #[.slice (some ⟨bk, o, none⟩) xs.length c, .string sep] w fun e w' => e = .returned (.string ⟨(Lib.join (xs.map (·.data.toList)) sep.data.toList).toArray⟩) ∧ Below w.heap.size w w') :
    PrimOk P gl f (pureP pJoin) := by
  refine prim_pure hbody (fun args r hp H B w argv G hi hargs => ?_)
  unfold pJoin at hp
  split at hp
  · rename_i l sep
    split at hp
    · rename_i xs hxs
      split at hp
      · rename_i hok
        simp only [Bool.and_eq_true, Nat.ble_eq] at hok
        simp only [Option.some.injEq] at hp; subst hp
        have hl := strsOf_eq hxs
        subst hl
        cases hargs with
        | cons h1 h2 => cases h2 with
          | cons h2 h3 =>
            cases h3
            rw [h2.str_inv]
            have hd := h1.d_inv rfl
            generalize hv : ([_] : List Value) = vl at hd
            cases hd' : xs with
            | nil =>
              subst hd'
              cases hd with
              | sl0 a cap =>
                cases hv
                exact (h0 a cap ⟨⟨sep⟩⟩ w).mono (by rintro e w' ⟨rfl, rfl⟩; exact ⟨_, rfl, Below.refl _ _, rv_str []⟩)
              | sl g1 g2 g3 g4 g5 g6 g7 =>
                cases hv
                exact (h0 _ _ ⟨⟨sep⟩⟩ w).mono (by rintro e w' ⟨rfl, rfl⟩; exact ⟨_, rfl, Below.refl _ _, rv_str []⟩)
            | cons x0 xs0 =>
              rw [← hd']
              generalize hm : xs.map D.str = ds at hd
              cases hd with
              | sl0 a cap => rw [hd'] at hm; simp at hm
              | @sl _ c e fr pre cs post a cap sz g1 g2 g3 g4 g5 g6 g7 =>
                subst hm
                cases hv
                obtain ⟨bk, o, sp⟩ := a
                simp only at g1 g2 g4
                subst g2; subst g4
                have hcs := RDs_strs_inv g5
                subst hcs
                have hb := hi _ _ g1
                have := h bk pre.length cap (xs.map fun s => ⟨⟨s⟩⟩) ⟨⟨sep⟩⟩ w (fun j x hx => by
                  have hx' : c[pre.length + j]? = some (Value.string x) := by
                    rw [← Array.getElem?_toList, g3, List.getElem?_append_right (by omega), show pre.length + j - pre.length = j by omega]
                    have hj : j < xs.length := by
                      have := (List.getElem?_eq_some_iff.1 hx).1
                      simpa using this
                    rw [List.getElem?_append_left (by simpa using hj)]
                    rw [List.getElem?_map] at hx ⊢
                    cases hq : xs[j]? with
                    | none => simp [hq] at hx
                    | some q => simp only [hq, Option.map_some, Option.some.injEq] at hx ⊢; subst hx; rfl
                  simp [World.cell?, hb, hx']) (Array.getElem?_eq_some_iff.1 hb).1 (by simpa using hok.2) (by simpa using g7) (by simpa [List.map_map, Function.comp_def] using hok.1)
                simp only [List.length_map, List.map_map, Function.comp_def, List.map_id'] at this
                rw [List.length_map]
                exact this.mono (by rintro e w' ⟨rfl, hb⟩; exact ⟨_, rfl, hb, rv_str _⟩)
      · simp at hp
    · simp at hp
  · simp at hp

/-! ## strconv.Atoi -/
def atoiV (s : List UInt8) : V :=
  match Lib.atoiAll s with
  | .ok v => .tup [.d (.int .i64 v), .d .nilif]
  | .range => .tup [.d (.int .i64 (Lib.atoiSat s)), .d .err]
  | _ => .tup [.d (.int .i64 0), .d .err]

theorem prim_atoi (hbody : HasBody P f)
    (h1 : ∀ (s : ByteArray) (v : Int) (w : World), s.size ≤ 9223372036854775806 → Lib.atoiAll s.data.toList = .ok v → Calls P f #[.string s] w fun e w' => e = .returned (.tuple #[.int .i64 v, .nilIface]) ∧ Below w.heap.size w w')
    (h2 : ∀ (s : ByteArray) (w : World) (H : Imm), Fine gl H w → s.size ≤ 281474976710656 → Lib.atoiAll s.data.toList = Lib.atoiAll [] → Calls P f #[.string s] w fun e w' => ∃ t x, e = .returned (.tuple #[.int .i64 0, .iface t x]) ∧ Below w.heap.size w w')
    (h3 : ∀ (s : ByteArray) (w : World) (H : Imm), Fine gl H w → s.size ≤ 281474976710656 → Lib.atoiAll s.data.toList = .range → Calls P f #[.string s] w fun e w' => ∃ t x, e = .returned (.tuple #[.int .i64 (Lib.atoiSat s.data.toList), .iface t x]) ∧ Below w.heap.size w w') :
    PrimOk P gl f (pureP (p1 short atoiV)) :=
  prim_p1 hbody fun s w H B hF ok => by
    have hs := short_le ok
    have hz : s.size = s.data.toList.length := (Array.length_toList).symm
    unfold atoiV
    cases ha : Lib.atoiAll s.data.toList with
    | ok v => exact (h1 s v w (by omega) ha).mono (by rintro e w' ⟨rfl, hb⟩; exact ⟨_, rfl, hb, .tup (.cons (rv_int _ _) (.cons (.one rfl (.d .nilif)) .nil))⟩)
    | range => exact (h3 s w H hF (by omega) ha).mono (by rintro e w' ⟨t, x, rfl, hb⟩; exact ⟨_, rfl, hb, .tup (.cons (rv_int _ _) (.cons (.one rfl (.d (.err t x))) .nil))⟩)
    | _ => exact (h2 s w H hF (by omega) (ha.trans rfl)).mono (by rintro e w' ⟨t, x, rfl, hb⟩; exact ⟨_, rfl, hb, .tup (.cons (rv_int _ _) (.cons (.one rfl (.d (.err t x))) .nil))⟩)

end Go.Ev
end

/- strings.Builder: copyCheck, from its contracts. -/
section
namespace Go.Ev
open Go.RowKit (Below)
variable {P : Program} {gl : Nat → Option D} {f : FuncId}

def pCopyCheck (T : TypeId) : List V → Cells → Option (V × Cells)
  | [.ptr t 0 []], cells => match assoc t cells with
    | some (.var ty (.agg [.d .nilptr, x])) => if ty = T ∧ x.size = 1 then some (.tup [], cells.set t (.var T (.agg [.ptr t 0 [], x]))) else none
    | some (.var ty (.agg [.ptr u 0 [], x])) => if ty = T ∧ u = t ∧ x.size = 1 then some (.tup [], cells) else none
    | _ => none
  | _, _ => none

theorem agg2_inv {H : Imm} {B : Bind} {x y : V} {cs : List Value} (h : RV H B (.agg [x, y]) cs) : ∃ a b, RV H B x a ∧ RV H B y b ∧ cs = a ++ b := by
  cases h with
  | agg h => cases h with
    | cons h1 h2 => cases h2 with
      | cons h2 h3 => cases h3; exact ⟨_, _, h1, h2, by simp⟩

theorem RVvs_one {H : Imm} {B : Bind} {x : V} {l : List Value} (h : RVvs H B [x] l) : ∃ v, l = [v] ∧ RVv H B x v := by
  cases h with
  | cons h1 h2 => cases h2; exact ⟨_, rfl, h1⟩

theorem RVptr {H : Imm} {B : Bind} {t b : Nat} (h : B t = .pointer (some ⟨b, 0, none⟩)) : RVv H B (.ptr t 0 []) (.pointer (some ⟨b, 0, none⟩)) := .one rfl (.ptr h)

theorem setCell_at {w : World} {b : Nat} {c : Array Value} {e : TypeId} {fr : Nat × Nat} {u : Value} (h : w.heap[b]? = some (.cells c e fr)) :
    (w.setCell ⟨b, 0, none⟩ u).heap[b]? = some (.cells (c.setIfInBounds 0 u) e fr) := by
  simp only [World.setCell]
  rw [Array.getElem?_modify, if_pos rfl, h]
  rfl

theorem setCell_other {w : World} {b b' : Nat} {u : Value} (h : b' ≠ b) : (w.setCell ⟨b, 0, none⟩ u).heap[b']? = w.heap[b']? := by
  simp only [World.setCell]
  rw [Array.getElem?_modify]
  rw [if_neg (fun e => h e.symm)]

theorem prim_copyCheck {T : TypeId} (hbody : HasBody P f)
    (h1 : ∀ (b : Nat) (w : World), w.cell? ⟨b, 0, none⟩ = some (.pointer (some ⟨b, 0, none⟩)) → Calls P f #[.pointer (some ⟨b, 0, none⟩)] w fun e w' => e = .returned (.tuple #[]) ∧ w' = w)
    (h2 : ∀ (b : Nat) (w : World), w.cell? ⟨b, 0, none⟩ = some (.pointer none) → w.shape? b = some (T, 2) → w.frozen? ⟨b, 0, none⟩ = false →
      Calls P f #[.pointer (some ⟨b, 0, none⟩)] w fun e w' => e = .returned (.tuple #[]) ∧ w' = w.setCell ⟨b, 0, none⟩ (.pointer (some ⟨b, 0, none⟩))) :
    PrimOk P gl f (pCopyCheck T) := by
  intro args cells r cells' hp
  refine ⟨hbody, fun H B w argv G hargs hbeg => ?_⟩
  unfold pCopyCheck at hp
  split at hp
  · rename_i t
    obtain ⟨v, rfl, hv⟩ := RVvs_one hargs
    obtain ⟨b, hB, rfl⟩ := hv.ptr_inv
    split at hp
    · -- a fresh one
      rename_i ty x hget
      split at hp
      · rename_i hc
        obtain ⟨rfl, hx1⟩ := hc
        simp only [Option.some.injEq, Prod.mk.injEq] at hp
        obtain ⟨rfl, rfl⟩ := hp
        obtain ⟨b', c, hB', hheap, hR⟩ := hbeg.cells t _ hget
        rw [hB] at hB'; cases hB'
        obtain ⟨a1, a2, r1, r2, hcs⟩ := agg2_inv hR
        have ha1 : a1 = [.pointer none] := by cases r1 with | d h => cases h; rfl
        subst ha1
        have ha2 : a2.length = 1 := r2.size.trans hx1
        have hsize : c.size = 2 := by rw [← Array.length_toList, hcs]; simp [ha2]
        have h0 : c[0]? = some (.pointer none) := by rw [← Array.getElem?_toList, hcs]; rfl
        refine (h2 b w (by simp [World.cell?, hheap, h0]) (by simp [World.shape?, hheap, hsize]) (by simp [World.frozen?, hheap])).mono ?_
        rintro e w' ⟨rfl, rfl⟩
        refine ⟨.tuple #[], H, B, rfl, .tup .nil, ?_⟩
        have J := Inv.change (dst := none) (x := .und) (v := undef) hbeg (by simp) (c := .var ty (.agg [.ptr t 0 [], x])) (b := b) hget rfl (fun _ _ _ => ⟨_, _, rfl⟩) (by rw [hB]; rfl) (.und _)
          (w' := w.setCell ⟨b, 0, none⟩ (.pointer (some ⟨b, 0, none⟩))) ⟨b, _, hB, setCell_at hheap, by
            have : (c.setIfInBounds 0 (.pointer (some ⟨b, 0, none⟩))).toList = [.pointer (some ⟨b, 0, none⟩)] ++ (a2 ++ []) := by
              rw [Array.toList_setIfInBounds, hcs]; simp
            rw [this]
            exact .agg (.cons (.ptr hB) (.cons r2 .nil))⟩ (fun b' hb' => setCell_other hb') (by simp [World.setCell]) rfl rfl rfl
        exact J
      · simp at hp
    · -- a used one
      rename_i ty u x hget
      split at hp
      · rename_i hc
        obtain ⟨rfl, rfl, hx1⟩ := hc
        simp only [Option.some.injEq, Prod.mk.injEq] at hp
        obtain ⟨rfl, rfl⟩ := hp
        obtain ⟨b', c, hB', hheap, hR⟩ := hbeg.cells u _ hget
        rw [hB] at hB'; cases hB'
        obtain ⟨a1, a2, r1, r2, hcs⟩ := agg2_inv hR
        have ha1 : a1 = [.pointer (some ⟨b, 0, none⟩)] := by
          cases r1 with
          | ptr h => rw [hB] at h; cases h; rfl
        subst ha1
        have h0 : c[0]? = some (.pointer (some ⟨b, 0, none⟩)) := by rw [← Array.getElem?_toList, hcs]; rfl
        refine (h1 b w (by simp [World.cell?, hheap, h0])).mono ?_
        rintro e w' ⟨rfl, rfl⟩
        exact ⟨.tuple #[], H, B, rfl, .tup .nil, hbeg⟩
      · simp at hp
    · simp at hp
  · simp at hp

end Go.Ev
end

/- strings.Builder: String, from its contracts. -/
section
namespace Go.Ev
open Go.RowKit (Below)
variable {P : Program} {gl : Nat → Option D} {f : FuncId}

/-- A row is read and its block marked: from then on it is frozen. -/
theorem ends_row {H : Imm} {B : Bind} {w w' : World} {cells : Cells} {u g cap sz : Nat} {E : TypeId} {l : List D} {c : Array Value} {cs post : List Value} {fr : Nat × Nat} {r : V} {v : Value}
    (hbeg : Begins H B w cells) (hget : assoc u cells = some (.row E sz l)) (hB : B u = .slice (some ⟨g, 0, none⟩) l.length cap) (hcs : c.toList = cs ++ post) (hR : RDs H l cs) (hs : ∀ x ∈ l, x.size = sz) (hcap : l.length ≤ cap)
    (hg : w'.heap[g]? = some (.cells c E fr)) (ho : ∀ b, b ≠ g → w'.heap[b]? = w.heap[b]?) (hsize : w'.heap.size = w.heap.size) (hos : w'.os = w.os) (htape : w'.tape = w.tape) (hout : w'.output = w.output)
    (hr : ∀ H', RVv H' B r v) : Ends H B w cells r (cells.set u (.frz (.sl l))) (.returned v) w' := by
  have hsep := hbeg.sep u _ g hget rfl (by rw [hB]; rfl)
  let H' : Imm := fun b => if b = g then w'.heap[g]? else H b
  have hle : H.le H' := by
    intro b o h
    show (if b = g then w'.heap[g]? else H b) = some o
    rw [if_neg (fun e => by subst e; rw [hsep.1] at h; cases h)]; exact h
  have htouch : touched B (bare cells) { res := .und, wr := [(u, .frz (.sl l))] } g := ⟨u, _, by simp, hget, rfl, by rw [hB]; rfl⟩
  have J := Inv.put (dst := none) (v := undef) (e := { res := .und, wr := [(u, .frz (.sl l))] }) (H' := H') (B' := B) (w' := w') hbeg (by simp) hle (fun _ _ => rfl) (.und _)
    (fun b o h => by
      change (if b = g then w'.heap[g]? else H b) = some o at h
      split at h
      · rename_i e; subst e; exact h
      · rename_i hne; rw [ho b hne]; exact hbeg.imm b o h) (by simp)
    (fun t c' h => by
      simp only [List.mem_singleton, Prod.mk.injEq] at h
      obtain ⟨rfl, rfl⟩ := h
      show RD H' (.sl l) [B t]
      rw [hB]
      exact .sl (a := ⟨g, 0, none⟩) (pre := []) (fr := fr) (by show (if g = g then w'.heap[g]? else H g) = _; rw [if_pos rfl]; exact hg) rfl (by simpa using hcs) rfl (hR.mono hle) hs hcap)
    (fun b _ hnt => ho b (fun e => hnt (by subst e; exact htouch)))
    (fun b o h => by
      change (if b = g then w'.heap[g]? else H b) = some o at h
      split at h
      · rename_i e; subst e; exact .inr (.inl htouch)
      · exact .inl h)
    (fun t c' b h hl => by simp only [List.mem_singleton, Prod.mk.injEq] at h; obtain ⟨rfl, rfl⟩ := h; simp [Cell.live] at hl)
    (fun t t' c1 c2 b hne h h' => by
      simp only [List.mem_singleton, Prod.mk.injEq] at h h'
      exact absurd (h.1.trans h'.1.symm) hne)
    (fun t ht => ⟨rfl, fun c' hc' => by
      simp only [List.mem_singleton, Prod.mk.injEq] at hc'
      obtain ⟨rfl, rfl⟩ := hc'
      obtain ⟨ty, x, hx⟩ := ht
      rw [hget] at hx; cases hx⟩) (by omega) hos htape hout
  exact ⟨v, H', B, rfl, hr H', J⟩

theorem bytesOf_cells {H : Imm} : ∀ {l : List D} {bs : List UInt8} {cs : List Value}, bytesOf l = some bs → RDs H l cs → cs = bs.map (fun x => Value.int .u8 x.toNat) ∧ l.length = bs.length ∧ ∀ x ∈ l, x.size = 1
  | [], bs, cs, h, hR => by simp [bytesOf] at h; subst h; cases hR; simp
  | x :: l, bs, cs, h, hR => by
    unfold bytesOf at h
    split at h
    · rename_i h0; cases h0
    · rename_i n l' h0
      cases h0
      split at h
      · rename_i r hr
        split at h
        · rename_i hn
          simp only [Option.some.injEq] at h; subst h
          cases hR with
          | cons h1 h2 =>
            obtain ⟨a1, a2, a3⟩ := bytesOf_cells hr h2
            cases h1
            subst a1
            have : ((UInt8.ofNat n.toNat).toNat : Int) = n := by
              rw [UInt8.toNat_ofNat']
              omega
            refine ⟨by rw [List.map_cons, this]; rfl, by simp [a2], fun y hy => ?_⟩
            simp only [List.mem_cons] at hy
            rcases hy with rfl | hy
            · rfl
            · exact a3 y hy
        · simp at h
      · simp at h
    · simp at h

def pBString (T E : TypeId) : List V → Cells → Option (V × Cells)
  | [.ptr t 0 []], cells => match assoc t cells with
    | some (.var ty (.agg [p, .nils])) => if ty = T ∧ p.size = 1 then some (.d (.str []), cells) else none
    | some (.var ty (.agg [p, .own u])) => match assoc u cells with
      | some (.row e 1 l) => match bytesOf l with
        | some bs => if ty = T ∧ e = E ∧ p.size = 1 ∧ bs ≠ [] ∧ bs.length ≤ 140737488355328 then some (.d (.str bs), cells.set u (.frz (.sl l))) else none
        | none => none
      | _ => none
    | _ => none
  | _, _ => none

theorem prim_bString {T E : TypeId} (hbody : HasBody P f)
    (h0 : ∀ (b : Nat) (p : Value) (w : World), w.heap[b]? = some (.cells #[p, .slice none 0 0] T (0, 0)) → Calls P f #[.pointer (some ⟨b, 0, none⟩)] w fun e w' => e = .returned (.string ⟨#[]⟩) ∧ w' = w.drew)
    (h1 : ∀ (b g cap : Nat) (p : Value) (l : List UInt8) (cur : Array Value) (post : List Value) (w : World), w.heap[b]? = some (.cells #[p, .slice (some ⟨g, 0, none⟩) l.length cap] T (0, 0)) →
      w.heap[g]? = some (.cells cur E (0, 0)) → cur.toList = l.map (fun x => Value.int .u8 x.toNat) ++ post → l.length ≤ cap → l.length ≤ 140737488355328 → l ≠ [] →
      Calls P f #[.pointer (some ⟨b, 0, none⟩)] w fun e w' => e = .returned (.string ⟨l.toArray⟩) ∧ w' = w.drew.freeze ⟨g, 0, none⟩ l.length) :
    PrimOk P gl f (pBString T E) := by
  intro args cells r cells' hp
  refine ⟨hbody, fun H B w argv G hargs hbeg => ?_⟩
  unfold pBString at hp
  split at hp
  · rename_i t
    obtain ⟨v, rfl, hv⟩ := RVvs_one hargs
    obtain ⟨b, hB, rfl⟩ := hv.ptr_inv
    split at hp
    · rename_i ty p hget
      split at hp
      · rename_i hc
        obtain ⟨rfl, hp1⟩ := hc
        simp only [Option.some.injEq, Prod.mk.injEq] at hp
        obtain ⟨rfl, rfl⟩ := hp
        obtain ⟨b', c, hB', hheap, hR⟩ := hbeg.cells t _ hget
        rw [hB] at hB'; cases hB'
        obtain ⟨a1, a2, r1, r2, hcs⟩ := agg2_inv hR
        obtain ⟨v1, rfl⟩ : ∃ v1, a1 = [v1] := List.length_eq_one_iff.1 (r1.size.trans hp1)
        have ha2 : a2 = [.slice none 0 0] := by cases r2; rfl
        subst ha2
        have hc2 : c = #[v1, .slice none 0 0] := by
          apply Array.toList_inj.1; rw [hcs]; rfl
        subst hc2
        refine (h0 b v1 w hheap).mono ?_
        rintro e w' ⟨rfl, rfl⟩
        exact ends_below hbeg ((Below.refl _ w).drew) (rv_str [])
      · simp at hp
    · rename_i ty p u hget
      split at hp
      · rename_i e l hu
        split at hp
        · rename_i bs hbs
          split at hp
          · rename_i hc
            obtain ⟨rfl, rfl, hp1, hne, hlen⟩ := hc
            simp only [Option.some.injEq, Prod.mk.injEq] at hp
            obtain ⟨rfl, rfl⟩ := hp
            obtain ⟨b', c, hB', hheap, hR⟩ := hbeg.cells t _ hget
            rw [hB] at hB'; cases hB'
            obtain ⟨a1, a2, r1, r2, hcs⟩ := agg2_inv hR
            obtain ⟨v1, rfl⟩ : ∃ v1, a1 = [v1] := List.length_eq_one_iff.1 (r1.size.trans hp1)
            rcases hbeg.cells u _ hu with ⟨rfl, _⟩ | ⟨g, cap, cu, cs, post, k1, k2, k3, k4, k5, k6, k7⟩
            · simp [bytesOf] at hbs; exact absurd hbs hne
            · obtain ⟨q1, q2, q3⟩ := bytesOf_cells hbs k4
              have ha2 : a2 = [.slice (some ⟨g, 0, none⟩) l.length cap] := by
                cases r2 with
                | own h => rw [k1] at h; cases h; rfl
              subst ha2
              have hc2 : c = #[v1, .slice (some ⟨g, 0, none⟩) bs.length cap] := by
                apply Array.toList_inj.1; rw [hcs, q2]; rfl
              subst hc2
              subst q1
              refine (h1 b g cap v1 bs cu post w hheap k2 k3 (by omega) hlen hne).mono ?_
              rintro en w' ⟨rfl, rfl⟩
              have hl0 : bs.length ≠ 0 := by simpa using hne
              have hkg : w.drew.heap[g]? = some (.cells cu e (0, 0)) := k2
              refine ends_row (g := g) (fr := (0, 0 + bs.length)) hbeg hu k1 k3 k4 q3 k6 ?_ (fun b' hb' => ?_) ?_ ?_ ?_ ?_ (fun H' => rv_str bs)
              · simp only [World.freeze, if_neg hl0]
                rw [Array.getElem?_modify, if_pos rfl, hkg]
                rfl
              · simp only [World.freeze, if_neg hl0]
                rw [Array.getElem?_modify, if_neg (fun h => hb' h.symm)]
                rfl
              · simp only [World.freeze, if_neg hl0]; exact Array.size_modify
              · simp only [World.freeze, if_neg hl0]; rfl
              · simp only [World.freeze, if_neg hl0]; rfl
              · simp only [World.freeze, if_neg hl0]; rfl
          · simp at hp
        · simp at hp
      · simp at hp
    · simp at hp
  · simp at hp

end Go.Ev
end

/- What an argument reads as, as pure data; the last step: a law of the evaluator's answer gives the row's contract. -/
section
namespace Go.Ev
open Go.RowKit Go.WideShapes Go.ChangeShapes

/-! ## Types without pointers -/
def fieldsOk (P : Program) (o : Nat) : List Field → Option Nat
  | [] => some o
  | f :: l => if f.offset = o then fieldsOk P (o + P.cellsOf f.type) l else none

def closedB (P : Program) (ts : List TypeId) : Bool := ts.all fun t =>
  match P.underlying t with
  | some (.int _) | some .bool | some .string => true
  | some (.slice e) => ts.contains e && Nat.ble 1 (P.cellsOf e)
  | some (.struct fs) => (fieldsOk P 0 fs.toList == some (P.cellsOf t)) && fs.toList.all fun f => ts.contains f.type
  | _ => false

mutual
/-- Data of a type. -/
inductive WT (P : Program) : TypeId → D → Prop
  | int {t : TypeId} {k : IntKind} {n : Int} : P.underlying t = some (.int k) → k.min ≤ n → n ≤ k.max → WT P t (.int k n)
  | bool {t : TypeId} {b : Bool} : P.underlying t = some .bool → WT P t (.bool b)
  | str {t : TypeId} {s : List UInt8} : P.underlying t = some .string → WT P t (.str s)
  | sl {t e : TypeId} {l : List D} : P.underlying t = some (.slice e) → WTl P e l → WT P t (.sl l)
  | agg {t : TypeId} {fs : Array Field} {l : List D} : P.underlying t = some (.struct fs) → WTs P (fs.toList.map (·.type)) l → WT P t (.agg l)
inductive WTl (P : Program) : TypeId → List D → Prop
  | nil {t : TypeId} : WTl P t []
  | cons {t : TypeId} {x : D} {l : List D} : WT P t x → WTl P t l → WTl P t (x :: l)
inductive WTs (P : Program) : List TypeId → List D → Prop
  | nil : WTs P [] []
  | cons {t : TypeId} {ts : List TypeId} {x : D} {l : List D} : WT P t x → WTs P ts l → WTs P (t :: ts) (x :: l)
end

mutual
/-- What reads as 'd' is 'x'. -/
inductive Img {H : Type} : DataW H → D → Prop
  | int (k : IntKind) (n : Int) : Img (.lit (.int k n)) (.int k n)
  | bool (b : Bool) : Img (.lit (.bool b)) (.bool b)
  | str (s : List UInt8) : Img (.lit (.string s)) (.str s)
  | nil : Img .nil (.sl [])
  | sl {es spare : List (DataW H)} {l : List D} : Imgs es l → Img (.slice es spare) (.sl l)
  | agg {ps : List (DataW H)} {l : List D} : Imgs ps l → Img (.agg ps) (.agg l)
inductive Imgs {H : Type} : List (DataW H) → List D → Prop
  | nil : Imgs [] []
  | cons {d : DataW H} {ds : List (DataW H)} {x : D} {l : List D} : Img d x → Imgs ds l → Imgs (d :: ds) (x :: l)
end

def heapOf (w : World) : Imm := fun b => w.heap[b]?

theorem mapM_some {α β : Type} {f : α → Option β} : ∀ {l : List α} {r : List β}, l.mapM f = some r → r.length = l.length ∧ ∀ i (h : i < l.length) , ∃ b, r[i]? = some b ∧ f l[i] = some b
  | [], r, h => by simp at h; subst h; exact ⟨rfl, fun i h => by simp at h⟩
  | a :: l, r, h => by
    simp only [List.mapM_cons, Option.bind_eq_bind, Option.bind_eq_some_iff, Option.pure_def, Option.some.injEq] at h
    obtain ⟨b, hb, q, hq, rfl⟩ := h
    obtain ⟨h1, h2⟩ := mapM_some hq
    refine ⟨by simp [h1], fun i hi => ?_⟩
    cases i with
    | zero => exact ⟨b, rfl, hb⟩
    | succ i =>
      obtain ⟨c, k1, k2⟩ := h2 i (by simpa using hi)
      exact ⟨c, by simpa using k1, by simpa using k2⟩

section
variable {H : Type} {enc : TypeId × Value → H} {P : Program} {w : World}

/-- The cells from an address on. -/
theorem cells_at {a : Addr} {n : Nat} {cs : List Value} (h : w.cells? 0 a n = some cs) : cs.length = n ∧ ∀ i, i < n → ∃ v, cs[i]? = some v ∧ w.cell? (a.add i) = some v := by
  unfold World.cells? at h
  rw [if_pos (Nat.zero_le _)] at h
  obtain ⟨h1, h2⟩ := mapM_some h
  simp only [List.length_range] at h1 h2
  refine ⟨h1, fun i hi => ?_⟩
  obtain ⟨b, k1, k2⟩ := h2 i hi
  exact ⟨b, k1, by simpa using k2⟩

theorem cell_inv {a : Addr} {v : Value} (h : w.cell? a = some v) : a.spot = none ∧ ∃ c e fr, w.heap[a.block]? = some (.cells c e fr) ∧ c[a.off]? = some v := by
  unfold World.cell? at h
  split at h <;> simp_all

theorem add_block (a : Addr) (n : Nat) : (a.add n).block = a.block := by unfold Addr.add; split <;> rfl
theorem add_off (a : Addr) (n : Nat) : (a.add n).off = a.off + n := by unfold Addr.add; split <;> simp_all
theorem add_zero (a : Addr) : a.add 0 = a := rfl

theorem cells_drop {a : Addr} {o k : Nat} {vs : List Value} {c : Array Value} {e : TypeId} {fr : Nat × Nat} (hb : w.heap[a.block]? = some (.cells c e fr)) (hs : a.spot = none) (h : w.cells? 0 (a.add o) k = some vs) :
    vs.length = k ∧ c.toList.drop (a.off + o) = vs ++ c.toList.drop (a.off + o + k) := by
  obtain ⟨h1, h2⟩ := cells_at h
  have key : ∀ i, i < k → vs[i]? = c.toList[a.off + o + i]? := by
    intro i hi
    obtain ⟨v, k1, k2⟩ := h2 i hi
    obtain ⟨_, c', e', fr', k3, k4⟩ := cell_inv k2
    have e1 : ((a.add o).add i).block = a.block := by rw [add_block, add_block]
    have e2 : ((a.add o).add i).off = a.off + o + i := by rw [add_off, add_off]
    rw [e1, hb] at k3
    cases k3
    rw [e2] at k4
    rw [k1, ← k4, Array.getElem?_toList]
  refine ⟨h1, ?_⟩
  apply List.ext_getElem?
  intro i
  rw [List.getElem?_drop]
  by_cases hi : i < k
  · rw [List.getElem?_append_left (by omega), key i hi]
  · rw [List.getElem?_append_right (by omega), List.getElem?_drop, h1]
    congr 1; omega
end

theorem RDs_app {I : Imm} : ∀ {l l' : List D} {cs cs' : List Value}, RDs I l cs → RDs I l' cs' → RDs I (l ++ l') (cs ++ cs')
  | [], _, _, _, .nil, h => h
  | _ :: _, _, _, _, .cons h1 h2, h => by rw [List.append_assoc]; exact .cons h1 (RDs_app h2 h)
theorem WTl_append {P : Program} {t : TypeId} : ∀ {l l' : List D}, WTl P t l → WTl P t l' → WTl P t (l ++ l')
  | [], _, .nil, h => h
  | _ :: _, _, .cons h1 h2, h => .cons h1 (WTl_append h2 h)
theorem Imgs_append {H : Type} : ∀ {ds ds' : List (DataW H)} {l l' : List D}, Imgs ds l → Imgs ds' l' → Imgs (ds ++ ds') (l ++ l')
  | [], _, [], _, .nil, h => h
  | _ :: _, _, _ :: _, _, .cons h1 h2, h => .cons h1 (Imgs_append h2 h)

section
variable {H : Type} {enc : TypeId × Value → H} {P : Program} {w : World}

/-- What an argument reads as. -/
theorem rd_of_trod {ts : List TypeId} (hcl : closedB P ts = true) {sp : Nat → Bool} {hd : Bool} : ∀ (fuel : Nat) (t : TypeId) (cs : List Value) (d : DataW H) (ps : List MemPlace), t ∈ ts →
    DataW.trod enc P w 0 sp hd fuel t cs = some (d, ps) → ∃ x, RD (heapOf w) x cs ∧ Img d x ∧ WT P t x := by
  intro fuel
  induction fuel with
  | zero => intro t cs d ps _ h; simp [DataW.trod] at h
  | succ fuel ih =>
    intro t cs d ps ht h
    have hc := List.all_eq_true.1 hcl t ht
    cases hu : P.underlying t with
    | none => simp [hu] at hc
    | some u =>
      simp only [hu] at hc
      unfold DataW.trod at h
      simp only [hu] at h
      cases u with
      | int k => -- int
        split at h <;> simp_all
        obtain ⟨⟨rfl, hw⟩, rfl, rfl⟩ := h
        simp only [Lit.wf, Bool.and_eq_true, decide_eq_true_eq] at hw
        exact ⟨_, .int _ _, .int _ _, .int hu hw.1 hw.2⟩
      | bool =>
        split at h <;> simp_all
        obtain ⟨rfl, rfl⟩ := h
        exact ⟨_, .bool _, .bool _, .bool hu⟩
      | string =>
        split at h <;> simp_all
        rename_i s
        obtain ⟨_, rfl, rfl⟩ := h
        obtain ⟨⟨s⟩⟩ := s
        exact ⟨.str s, .str s, .str s, .str hu⟩
      | slice e =>
        simp only [Bool.and_eq_true, List.contains_iff_mem, Nat.ble_eq] at hc
        obtain ⟨he, hk⟩ := hc
        split at h <;> try (exfalso; simp_all; done)
        · rename_i e' heq
          cases heq
          simp only [Option.some.injEq, Prod.mk.injEq] at h
          obtain ⟨rfl, rfl⟩ := h
          exact ⟨.sl [], .sl0 none 0, .nil, .sl hu .nil⟩
        · rename_i e' a len cap heq
          cases heq
          split at h
          · rename_i hcond
            obtain ⟨_, hlc, hcm⟩ := hcond
            simp only [Option.bind_eq_some_iff, Option.map_eq_some_iff] at h
            obtain ⟨elems, hel, rest, hrest, hd⟩ := h
            simp only [Prod.mk.injEq] at hd
            obtain ⟨rfl, _⟩ := hd
            obtain ⟨h1, h2⟩ := mapM_some hel
            simp only [List.length_range] at h1 h2
            by_cases hl0 : len = 0
            · subst hl0
              have : elems = [] := List.eq_nil_of_length_eq_zero h1
              subst this
              exact ⟨.sl [], .sl0 _ _, .sl .nil, .sl hu .nil⟩
            · obtain ⟨b0, k1, k2⟩ := h2 0 (by omega)
              simp only [List.getElem_range, Option.bind_eq_some_iff] at k2
              obtain ⟨vs0, k3, k4⟩ := k2
              obtain ⟨_, hc0⟩ := cells_at k3
              obtain ⟨v0, _, hv0⟩ := hc0 0 (by omega)
              obtain ⟨hsp, c, e2, fr, hblk, _⟩ := cell_inv hv0
              rw [Nat.zero_mul, add_zero, add_zero] at hblk hsp
              have hblk' : w.heap[a.block]? = some (.cells c e2 fr) := hblk
              have hsp' : a.spot = none := hsp
              have key : ∀ n, n ≤ len → ∃ xs cs, Imgs ((elems.take n).map (·.1)) xs ∧ RDs (heapOf w) xs cs ∧ WTl P e xs ∧ (∀ x ∈ xs, x.size = P.cellsOf e) ∧ xs.length = n ∧ c.toList.drop a.off = cs ++ c.toList.drop (a.off + n * P.cellsOf e) := by
                intro n
                induction n with
                | zero => intro _; exact ⟨[], [], .nil, .nil, .nil, by simp, rfl, by simp⟩
                | succ n ihn =>
                  intro hn
                  obtain ⟨xs, cs, g1, g2, g3, g3s, g4, g5⟩ := ihn (by omega)
                  obtain ⟨b, m1, m2⟩ := h2 n (by omega)
                  simp only [List.getElem_range, Option.bind_eq_some_iff] at m2
                  obtain ⟨vs, m3, m4⟩ := m2
                  obtain ⟨x, n1, n2, n3⟩ := ih e vs b.1 b.2 he m4
                  obtain ⟨p1, p2⟩ := cells_drop hblk' hsp' m3
                  refine ⟨xs ++ [x], cs ++ vs, ?_, ?_, WTl_append g3 (.cons n3 .nil), ?_, by simp [g4], ?_⟩
                  · rw [List.take_add_one, m1]
                    simp only [Option.toList_some, List.map_append, List.map_cons, List.map_nil]
                    exact Imgs_append g1 (.cons n2 .nil)
                  · have := RDs_app g2 (RDs.cons n1 .nil)
                    simpa using this
                  · intro y hy
                    rcases List.mem_append.1 hy with hy | hy
                    · exact g3s y hy
                    · simp at hy; subst hy; rw [← n1.size, p1]
                  · rw [g5, p2, List.append_assoc, Nat.succ_mul, Nat.add_assoc]
              obtain ⟨xs, cs', g1, g2, g3, g3s, g4, g5⟩ := key len (Nat.le_refl _)
              rw [← h1, List.take_length] at g1
              refine ⟨.sl xs, ?_, .sl g1, .sl hu g3⟩
              have hlt : a.off ≤ c.toList.length := by
                rcases Nat.lt_or_ge a.off c.toList.length with hh | hh
                · omega
                · exfalso
                  rw [List.drop_eq_nil_of_le hh] at g5
                  have h6 : cs' = [] := (List.append_eq_nil_iff.1 g5.symm).1
                  subst h6
                  have h7 := g2.size
                  cases xs with
                  | nil => simp at g4; omega
                  | cons y ys =>
                    have h8 := g3s y (by simp)
                    simp only [List.length_nil, D.sizes] at h7
                    omega
              rw [← g4]
              exact .sl (pre := c.toList.take a.off) (post := c.toList.drop (a.off + len * P.cellsOf e)) hblk' hsp' (by rw [← g5, List.take_append_drop]) (by rw [List.length_take]; omega) g2 g3s (by omega)
          · simp at h
      | struct fs =>
        simp only [Bool.and_eq_true, beq_iff_eq, List.all_eq_true, List.contains_iff_mem] at hc
        obtain ⟨hoff, hfs⟩ := hc
        split at h <;> try (exfalso; simp_all; done)
        rename_i cs' _ _ fs' heq
        cases heq
        split at h
        · rename_i hlen
          simp only [Option.map_eq_some_iff] at h
          obtain ⟨xs, hxs, hd⟩ := h
          simp only [Prod.mk.injEq] at hd
          obtain ⟨rfl, _⟩ := hd
          have key : ∀ (l : List Field) (o : Nat) (ys : List (DataW H × List MemPlace)), (∀ f ∈ l, f.type ∈ ts) → fieldsOk P o l = some (P.cellsOf t) → (l.mapM fun f => DataW.trod enc P w 0 sp hd fuel f.type ((cs'.drop f.offset).take (P.cellsOf f.type))) = some ys →
              ∃ ds, RDs (heapOf w) ds (cs'.drop o) ∧ Imgs (ys.map (·.1)) ds ∧ WTs P (l.map (·.type)) ds := by
            intro l
            induction l with
            | nil =>
              intro o ys _ ho hm
              simp [fieldsOk] at ho
              simp at hm
              subst hm
              refine ⟨[], ?_, .nil, .nil⟩
              rw [List.drop_eq_nil_of_le (by omega)]
              exact .nil
            | cons f l ihl =>
              intro o ys hf ho hm
              simp only [fieldsOk] at ho
              split at ho
              · rename_i hfo
                simp only [List.mapM_cons, Option.bind_eq_bind, Option.bind_eq_some_iff, Option.pure_def, Option.some.injEq] at hm
                obtain ⟨b, hb, q, hq, rfl⟩ := hm
                obtain ⟨x, n1, n2, n3⟩ := ih f.type _ b.1 b.2 (hf f (by simp)) hb
                obtain ⟨ds, g1, g2, g3⟩ := ihl _ q (fun g hg => hf g (by simp [hg])) ho hq
                refine ⟨x :: ds, ?_, .cons n2 g2, .cons n3 g3⟩
                have := RDs.cons n1 g1
                rw [hfo, ← List.drop_drop, List.take_append_drop] at this
                exact this
              · simp at ho
          obtain ⟨ds, g1, g2, g3⟩ := key fs.toList 0 xs (fun f hf => hfs f hf) hoff hxs
          exact ⟨.agg ds, .agg (by simpa using g1), .agg g2, .agg hu g3⟩
        · simp at h
      | _ => simp at hc
end
end Go.Ev
end

/- The last step: a law that the evaluator answers with 'true' keeps the row's contract. -/
section
set_option linter.unusedVariables false
namespace Go.Ev
open Go.RowKit Go.WideShapes Go.ChangeShapes

section
variable {H : Type} {enc : TypeId × Value → H} {P : Program} {w : World}

theorem rvv_of {ts : List TypeId} (hcl : closedB P ts = true) {t : TypeId} (ht : t ∈ ts) {base : Nat} {v : Value} {x : D} {B : Bind} (hv : Value.okWide P w .any base t v) (hx : RD (heapOf w) x v.cells.toList) (hw : WT P t x) : RVv (heapOf w) B (.d x) v := by
  have hc := List.all_eq_true.1 hcl t ht
  cases hw with
  | int hu h1 h2 =>
    cases v <;> simp [Value.okWide, hu, Cell.okWide, Cell.ok] at hv
    exact .one rfl (.d (by simpa [Value.cells] using hx))
  | bool hu =>
    cases v <;> simp [Value.okWide, hu, Cell.okWide, Cell.ok] at hv
    exact .one rfl (.d (by simpa [Value.cells] using hx))
  | str hu =>
    cases v <;> simp [Value.okWide, hu, Cell.okWide, Cell.ok] at hv
    exact .one rfl (.d (by simpa [Value.cells] using hx))
  | sl hu h1 =>
    cases v <;> simp [Value.okWide, hu, Cell.okWide, Cell.ok] at hv
    all_goals exact .one rfl (.d (by simpa [Value.cells] using hx))
  | agg hu h1 =>
    simp only [Value.okWide, hu] at hv
    obtain ⟨cs, rfl, _, _⟩ := hv
    have : RVv (heapOf w) B (.d (.agg _)) (.agg cs.toList.toArray) := .agg rfl (.d (by simpa [Value.cells] using hx))
    simpa using this

theorem args_of {ts : List TypeId} (hcl : closedB P ts = true) {base : Nat} {B : Bind} {sp : Nat → Bool} {hd : Bool} : ∀ {pt : List TypeId} {vs : List Value} {ds : List (DataW H)} {ps : List MemPlace}, (∀ t ∈ pt, t ∈ ts) →
    DataW.TrodAll enc P w 0 sp hd pt vs ds ps → (∀ (j : Nat) t v, pt[j]? = some t → vs[j]? = some v → Value.okWide P w .any base t v) →
    ∃ xs, RVvs (heapOf w) B (xs.map V.d) vs ∧ Imgs ds xs ∧ WTs P pt xs
  | [], [], [], _, _, _, _ => ⟨[], .nil, .nil, .nil⟩
  | [], _ :: _, _, _, _, h, _ => by simp [DataW.TrodAll] at h
  | [], [], _ :: _, _, _, h, _ => by simp [DataW.TrodAll] at h
  | _ :: _, [], _, _, _, h, _ => by simp [DataW.TrodAll] at h
  | _ :: _, _ :: _, [], _, _, h, _ => by simp [DataW.TrodAll] at h
  | t :: pt, v :: vs, d :: ds, ps, hp, h, hv => by
    obtain ⟨p, q, ⟨fuel, h1⟩, h2, _⟩ := h
    obtain ⟨x, k1, k2, k3⟩ := rd_of_trod hcl fuel t _ d p (hp t (by simp)) h1
    obtain ⟨xs, g1, g2, g3⟩ := args_of (B := B) hcl (fun t' ht' => hp t' (by simp [ht'])) h2 (fun j t' v' hj hj' => hv (j + 1) t' v' (by simpa using hj) (by simpa using hj'))
    exact ⟨x :: xs, .cons (rvv_of hcl (hp t (by simp)) (hv 0 t v rfl rfl) k1 k3) g1, .cons k2 g2, .cons k3 g3⟩

theorem trodAll_len {base : Nat} {sp : Nat → Bool} {hd : Bool} : ∀ {pt : List TypeId} {vs : List Value} {ds : List (DataW H)} {ps : List MemPlace}, DataW.TrodAll enc P w base sp hd pt vs ds ps → ds.length = pt.length
  | [], [], [], _, _ => rfl
  | [], _ :: _, _, _, h => by simp [DataW.TrodAll] at h
  | [], [], _ :: _, _, h => by simp [DataW.TrodAll] at h
  | _ :: _, [], _, _, h => by simp [DataW.TrodAll] at h
  | _ :: _, _ :: _, [], _, h => by simp [DataW.TrodAll] at h
  | _ :: pt, _ :: vs, _ :: ds, _, ⟨_, _, _, h2, _⟩ => by simp [trodAll_len h2]

theorem begins_heap (w : World) : Begins (heapOf w) (fun _ => undef) w [] := {
  size := rfl
  defers := rfl
  env := fun s => .und _
  cells := fun t c h => by simp [bare, St.get, assoc] at h
  sep := fun t c b h => by simp [bare, St.get, assoc] at h
  apart := fun t t' c c' b _ h => by simp [bare, St.get, assoc] at h
  imm := fun b o h => h
  le := Imm.le_refl _
  fromH := fun b o h => .inl ⟨o, h⟩
  frame := fun _ _ _ => rfl
  grow := Nat.le_refl _
  os := rfl
  tape := rfl
  output := rfl
  keep := fun t ht => by obtain ⟨e, v, h⟩ := ht; simp [assoc] at h }

theorem trodAll_stays (hl : laidOutB P = true) {W W' : World} {sp : Nat → Bool} : ∀ {pt : List TypeId} {vs : List Value} {ds : List (DataW H)} {ps : List MemPlace}, (∀ t ∈ pt, P.readableRec t = true ∧ t < P.types.size) →
    DataW.TrodAll enc P W 0 (fun _ => true) true pt vs ds ps → (∀ p ∈ ps, W.sameAt W' p) → (∀ p ∈ ps, sp p.block = true) → DataW.TrodAll enc P W' 0 sp true pt vs ds ps
  | [], [], [], _, _, h, _, _ => h
  | [], _ :: _, _, _, _, h, _, _ => by simp [DataW.TrodAll] at h
  | [], [], _ :: _, _, _, h, _, _ => by simp [DataW.TrodAll] at h
  | _ :: _, [], _, _, _, h, _, _ => by simp [DataW.TrodAll] at h
  | _ :: _, _ :: _, [], _, _, h, _, _ => by simp [DataW.TrodAll] at h
  | t :: pt, v :: vs, d :: ds, ps, hp, h, hs, hb => by
    obtain ⟨p, q, h1, h2, rfl⟩ := h
    exact ⟨p, q, WideElems.Trod_stays hl (hp t (by simp)).1 (hp t (by simp)).2 h1 (fun x hx => hs x (by simp [hx])) (fun x hx => hb x (by simp [hx])),
      trodAll_stays hl (fun t' ht' => hp t' (by simp [ht'])) h2 (fun x hx => hs x (by simp [hx])) (fun x hx => hb x (by simp [hx])), rfl⟩

theorem WT_struct {t : TypeId} {x : D} {ts : List TypeId} (h : WT P t x) (hu : (match P.underlying t with | some (.struct fs) => some (fs.toList.map (·.type)) | _ => none) = some ts) : ∃ l, x = .agg l ∧ WTs P ts l := by
  cases h with
  | agg h1 h2 => rw [h1] at hu; simp only [Option.some.injEq] at hu; subst hu; exact ⟨_, rfl, h2⟩
  | int h1 => rw [h1] at hu; cases hu
  | bool h1 => rw [h1] at hu; cases hu
  | str h1 => rw [h1] at hu; cases hu
  | sl h1 => rw [h1] at hu; cases hu
theorem WT_slice {t e : TypeId} {x : D} (h : WT P t x) (hu : (match P.underlying t with | some (.slice e) => some e | _ => none) = some e) : ∃ l, x = .sl l ∧ WTl P e l := by
  cases h with
  | sl h1 h2 => rw [h1] at hu; simp only [Option.some.injEq] at hu; subst hu; exact ⟨_, rfl, h2⟩
  | int h1 => rw [h1] at hu; cases hu
  | bool h1 => rw [h1] at hu; cases hu
  | str h1 => rw [h1] at hu; cases hu
  | agg h1 => rw [h1] at hu; cases hu
theorem WT_int {t : TypeId} {k : IntKind} {x : D} (h : WT P t x) (hu : (match P.underlying t with | some (.int k) => some k | _ => none) = some k) : ∃ n, x = .int k n ∧ k.min ≤ n ∧ n ≤ k.max := by
  cases h with
  | int h1 h2 h3 => rw [h1] at hu; simp only [Option.some.injEq] at hu; subst hu; exact ⟨_, rfl, h2, h3⟩
  | sl h1 => rw [h1] at hu; cases hu
  | bool h1 => rw [h1] at hu; cases hu
  | str h1 => rw [h1] at hu; cases hu
  | agg h1 => rw [h1] at hu; cases hu
theorem WT_str {t : TypeId} {x : D} (h : WT P t x) (hu : (match P.underlying t with | some .string => true | _ => false) = true) : ∃ s, x = .str s := by
  cases h with
  | str h1 => exact ⟨_, rfl⟩
  | int h1 => rw [h1] at hu; cases hu
  | bool h1 => rw [h1] at hu; cases hu
  | sl h1 => rw [h1] at hu; cases hu
  | agg h1 => rw [h1] at hu; cases hu

/-! ## Bulk -/
mutual
def _root_.Go.Ev.D.bulk : D → Nat
  | .str s => s.length + 1
  | .sl l => D.bulks l + 1
  | .agg l => D.bulks l + 1
  | _ => 1
def _root_.Go.Ev.D.bulks : List D → Nat
  | [] => 0
  | x :: l => D.bulk x + D.bulks l
end

theorem law_calls {C : Cfg} (hC : C.Ok P) {f : FuncId} {fn : Func} {ts : List TypeId} (hcl : closedB P ts = true) (hpar : ∀ t ∈ fn.params.toList, t ∈ ts)
    {tb : TypeId} (hr : fn.resultTypes = #[tb]) (htb : P.underlying tb = some .bool) (hl : laidOutB P = true) (hread : ∀ t ∈ fn.params.toList, P.readableRec t = true ∧ t < P.types.size)
    {s : ChangeSpec} (hs : s.vars = []) {W : World} {base : Nat} {args : Array Value} {ds gs : List (DataW H)} {before : List MemPlace}
    (hval : ∀ (j : Nat) t v, fn.params[j]? = some t → args[j]? = some v → Value.okWide P W .any base t v)
    (hW : DataW.Whole enc P fn.params.toList s.vars false W args.toList ds gs before)
    (hspec : gs = [] → s.fn H (ds ++ gs) = { results := [.lit (.bool true)], args := ds })
    (hG : GlOk C.gl (heapOf W))
    (hev : gs = [] → ∀ xs, WTs P fn.params.toList xs → Imgs ds xs → ∃ cs, ev C f (xs.map V.d) [] = some (.d (.bool true), cs)) :
    Calls P f args W fun e W' => ∃ v, e = .returned v ∧ s.post enc P fn false true false false W args v W' := by
  have hW' := hW
  obtain ⟨p, q, hA, hV, hpq, hfz, hnd⟩ := hW
  rw [hs] at hV
  have hg : gs = [] ∧ q = [] := by
    cases gs with
    | nil => exact ⟨rfl, hV⟩
    | cons g gs => exact hV.elim
  obtain ⟨hg, hq⟩ := hg
  have hbefore : before = p := by rw [hpq, hq, List.append_nil]
  obtain ⟨xs, h1, h2, h3⟩ := args_of (B := fun _ => undef) (base := base) hcl hpar hA (fun j t v hj hj' => hval j t v (by simpa using hj) (by simpa using hj'))
  obtain ⟨cs, hev'⟩ := hev hg xs h3 h2
  obtain ⟨_, hcall⟩ := ev_ok hC f _ _ _ _ hev'
  have hc := hcall (heapOf W) (fun _ => undef) W args.toList hG h1 (begins_heap W)
  rw [Array.toArray_toList] at hc
  refine hc.mono fun e W' hE => ?_
  obtain ⟨v, H', B', rfl, hv, J⟩ := hE
  have hvb : v = .bool true := by
    cases hv with
    | one h h' => cases h' with
      | d h'' => cases h''; rfl
    | agg h h' => simp [V.isAgg, D.isAgg] at h
  subst hvb
  have hb : Below W.heap.size W W' := ⟨J.os, J.tape, J.output, J.grow, fun k hk => J.frame k hk (by rintro ⟨t, c, h, _⟩; simp [assoc] at h)⟩
  have hlt : ∀ x ∈ before, x.block < W.heap.size := fun x hx => hW'.lt x hx
  refine ⟨_, rfl, ?_⟩
  have hsp := hspec hg
  have harg : ∀ sp : Nat → Bool, (∀ x ∈ before, sp x.block = true) → DataW.TrodAll enc P W' 0 sp true fn.params.toList args.toList ds before := fun sp hsp => by
    rw [hbefore]
    rw [hbefore] at hsp hlt
    exact trodAll_stays hl hread hA (fun x hx => hb.same (hlt x hx)) hsp
  have hres : ∀ (b : Nat) (sp : Nat → Bool) (hd : Bool), DataW.TrodAll enc P W' b sp hd fn.resultTypes.toList ((Value.bool true).resultList fn.resultTypes.size) [.lit (.bool true)] [] := fun b sp hd => by
    rw [hr]
    exact trodAll_mk1 (shut_bool htb true)
  have hvar : ∀ sp : Nat → Bool, DataW.TrodVars enc P W' sp s.vars [] [] := fun sp => by rw [hs]; rfl
  refine ⟨ds, gs, before, [], before, [], hW', by rw [hsp]; exact hres _ _ _, by rw [hsp]; exact harg _ (fun x hx => by simpa using hlt x hx), by rw [hsp]; exact hvar _, World.keptBut_mono (fun x hx => ⟨hx, .inr (.inl hx)⟩) (hb.frame (· ∈ before)), fun hagain => by cases hagain⟩
end
end Go.Ev
end

/- The evaluator with calls on data as equations ('ev1'): what it answers, 'ev' answers. -/
section
set_option linter.unusedVariables false
namespace Go.Ev

/-- A call that is handed data alone and gives data back. -/
noncomputable def ev1 (C : Cfg) (f : FuncId) (as : List V) : Option V :=
  match ev C f as [] with
  | some (r, _) => if r.refs = [] then some r else none
  | none => none

theorem ev1_of {C : Cfg} {f : FuncId} {as : List V} {r : V} {cs : Cells} (h : ev C f as [] = some (r, cs)) (hr : r.refs = []) : ev1 C f as = some r := by
  unfold ev1; rw [h]; simp [hr]

theorem ev1_inv {C : Cfg} {f : FuncId} {as : List V} {r : V} (h : ev1 C f as = some r) : ∃ cs, ev C f as [] = some (r, cs) ∧ r.refs = [] := by
  unfold ev1 at h
  split at h
  · rename_i r' cs he
    split at h
    · rename_i hr
      simp only [Option.some.injEq] at h; subst h
      exact ⟨cs, he, hr⟩
    · simp at h
  · simp at h

noncomputable def callS (C : Cfg) (T : Nat) (f : FuncId) (args : List V) (get : Nat → Option Cell) : Option Eff :=
  match V.frzL get args with
  | none => none
  | some as => if V.refsL as = [] then
      match ev1 C f as with
      | some r => some { res := r, wr := fzw get args }
      | none => none
    else callEff (ev C) false T f args get

theorem callS_ok {C : Cfg} {T : Nat} {f : FuncId} {args : List V} {get : Nat → Option Cell} {e : Eff} (h : callS C T f args get = some e) : callEff (ev C) false T f args get = some e := by
  unfold callS at h
  cases h1 : V.frzL get args with
  | none => rw [h1] at h; cases h
  | some as =>
    simp only [h1] at h
    split at h
    · rename_i h2
      cases h3 : ev1 C f as with
      | none => simp [h3] at h
      | some r =>
        simp only [h3, Option.some.injEq] at h
        subst h
        obtain ⟨cs, h4, h5⟩ := ev1_inv h3
        exact callEff_data h1 h2 h4 h5
    · exact h

noncomputable def evalOpS (C : Cfg) (T : Nat) (op : SOp) (val : X → V) (get : Nat → Option Cell) : Option Eff :=
  match op with
  | .call f args => callS C T f (args.map val) get
  | .callM f args => callEff (ev C) true T f (args.map val) get
  | .callv f args => match val f with
    | .d (.fn g) => callS C T g (args.map val) get
    | .clo g cap => callS C T g (args.map val ++ cap) get
    | _ => none
  | op => evalOp (fun _ _ _ => none) T op val get

theorem evalOpS_ok {C : Cfg} {T : Nat} {op : SOp} {val : X → V} {get : Nat → Option Cell} {e : Eff} (h : evalOpS C T op val get = some e) : evalOp (ev C) T op val get = some e := by
  cases op with
  | call f args => exact callS_ok h
  | callM f args => exact h
  | callv f args =>
    simp only [evalOpS] at h
    simp only [evalOp]
    split at h
    · rename_i g hg; rw [hg]; exact callS_ok h
    · rename_i g cap hg; rw [hg]; exact callS_ok h
    · simp at h
  | _ => exact h

noncomputable def stepS (C : Cfg) (T : Nat) (o : SOpr) (σ : St) : Option Eff :=
  match wants σ o.guard with
  | none => none
  | some false => some { res := .skp }
  | some true => evalOpS C T o.op (σ.val C.gl) σ.get

theorem stepS_ok {C : Cfg} {T : Nat} {o : SOpr} {σ : St} {e : Eff} (h : stepS C T o σ = some e) : stepE C.gl (ev C) T o σ = some e := by
  unfold stepS at h
  unfold stepE
  split at h
  · cases h
  · rename_i hh; rw [hh]; exact h
  · rename_i hh; rw [hh]; exact evalOpS_ok h

noncomputable def stepsS (C : Cfg) (id : Nat) (i : Nat) : List SOpr → St → Option St
  | [], σ => some σ
  | o :: l, σ => match stepS C (tagOf id i) o σ with
    | none => none
    | some e => stepsS C id (i + 1) l (σ.put o.dst e)

theorem stepsS_ok {C : Cfg} {id : Nat} : ∀ {l : List SOpr} {i : Nat} {σ τ : St}, stepsS C id i l σ = some τ → steps C.gl (ev C) id i l σ = some τ
  | [], _, _, _, h => h
  | o :: l, i, σ, τ, h => by
    simp only [stepsS] at h
    simp only [steps]
    cases hs : stepS C (tagOf id i) o σ with
    | none => rw [hs] at h; cases h
    | some e => rw [hs] at h; rw [stepS_ok hs]; exact stepsS_ok h

noncomputable def stepsIS (C : Cfg) (id : Nat) (i : Nat) : List SOpr → St → Option (St × List Info)
  | [], σ => some (σ, [])
  | o :: l, σ => match stepS C (tagOf id i) o σ with
    | none => none
    | some e => match stepsIS C id (i + 1) l (σ.put o.dst e) with
      | none => none
      | some (σ', is) => some (σ', infoOf C.gl o σ e :: is)

theorem stepsIS_ok {C : Cfg} {id : Nat} : ∀ {l : List SOpr} {i : Nat} {σ : St} {r : St × List Info}, stepsIS C id i l σ = some r → stepsI C.gl (ev C) id i l σ = some r
  | [], _, _, _, h => h
  | o :: l, i, σ, r, h => by
    simp only [stepsIS] at h
    simp only [stepsI]
    cases hs : stepS C (tagOf id i) o σ with
    | none => rw [hs] at h; cases h
    | some e =>
      rw [hs] at h
      rw [stepS_ok hs]
      dsimp only at h ⊢
      cases hr : stepsIS C id (i + 1) l (σ.put o.dst e) with
      | none => rw [hr] at h; cases h
      | some q => rw [hr] at h; simp only [stepsIS_ok hr]; exact h

noncomputable def evalS (C : Cfg) : SCode → St → Option (EX × St)
  | .skip, σ => some (.normal, σ)
  | .region id ops _ chk drop, σ => match chk with
    | [] => match stepsS C id 0 ops σ with
      | some σ' => some (.normal, { σ' with env := σ'.env.drop drop })
      | none => none
    | c :: cs => match stepsIS C id 0 ops σ with
      | some (σ', is) => if (c :: cs).all (fun p => indepAt is p.1 p.2) = true then some (.normal, { σ' with env := σ'.env.drop drop }) else none
      | none => none
  | .seq a b, σ => match evalS C a σ with
    | some (.normal, σ') => evalS C b σ'
    | r => r
  | .cond c x y, σ => match σ.val C.gl c with
    | .d (.bool true) => evalS C x σ
    | .d (.bool false) => evalS C y σ
    | _ => none
  | .block id c, σ => match evalS C c σ with
    | some (.exit j, σ') => if j = id then some (.normal, σ') else some (.exit j, σ')
    | r => r
  | .loop c, σ => iterL (σ.env.map Prod.fst) (σ.cells.map Prod.fst) (evalS C c) σ
  | .exit id, σ => some (.exit id, σ)
  | .ret, σ => some (.ret, σ)
  | .bad, _ => none

theorem evalS_ok {C : Cfg} : ∀ {s : SCode} {σ : St} {r : EX × St}, evalS C s σ = some r → evalL C.gl (ev C) s σ = some r := by
  intro s
  induction s with
  | skip => intro σ r h; exact h
  | region id ops draw chk drop =>
    intro σ r h
    simp only [evalS] at h
    simp only [evalL]
    split at h
    · cases hs : stepsS C id 0 ops σ with
      | none => rw [hs] at h; cases h
      | some τ => simp only [hs] at h; rw [stepsS_ok hs]; exact h
    · cases hs : stepsIS C id 0 ops σ with
      | none => rw [hs] at h; cases h
      | some τ => simp only [hs] at h; rw [stepsIS_ok hs]; exact h
  | seq a b iha ihb =>
    intro σ r h
    simp only [evalS] at h
    simp only [evalL]
    cases hs : evalS C a σ with
    | none => rw [hs] at h; cases h
    | some p =>
      obtain ⟨x, σ'⟩ := p
      simp only [hs] at h
      rw [iha hs]
      cases x with
      | normal => exact ihb h
      | exit j => exact h
      | ret => exact h
  | cond x a b iha ihb =>
    intro σ r h
    simp only [evalS] at h
    simp only [evalL]
    split at h
    · rename_i hb; rw [hb]; exact iha h
    · rename_i hb; rw [hb]; exact ihb h
    · simp at h
  | block id a iha =>
    intro σ r h
    simp only [evalS] at h
    simp only [evalL]
    cases hs : evalS C a σ with
    | none => rw [hs] at h; cases h
    | some p => simp only [hs] at h; rw [iha hs]; exact h
  | loop a iha =>
    intro σ r h
    simp only [evalS] at h
    simp only [evalL]
    obtain ⟨n, hn⟩ := iterL_some.1 h
    exact iterL_some.2 ⟨n, iter_mono (fun σ r h => iha h) (Nat.le_refl n) hn⟩
  | exit id => intro σ r h; exact h
  | ret => intro σ r h; exact h
  | bad => intro σ r h; simp [evalS] at h

/-- A function's answer. -/
noncomputable def bodyS (C : Cfg) (S : SFunc) (args : List V) (cells : Cells) : Option (V × Cells) :=
  if args.length = S.nparams then
    match evalS C S.code { env := numbered 0 args, cells := cells } with
    | some (.normal, σ) | some (.ret, σ) => result S.results σ
    | _ => none
  else none

theorem bodyS_ok {C : Cfg} {S : SFunc} {args : List V} {cells : Cells} {x : V × Cells} (h : bodyS C S args cells = some x) : bodyL C.gl (ev C) S args cells = some x := by
  unfold bodyS at h
  unfold bodyL
  split at h
  · rename_i hl
    rw [if_pos hl]
    cases he : evalS C S.code { env := numbered 0 args, cells := cells } with
    | none => rw [he] at h; cases h
    | some r => simp only [he] at h; rw [evalS_ok he]; exact h
  · simp at h

theorem ev_fnS {C : Cfg} {f : FuncId} {S : SFunc} {args : List V} {cells : Cells} {x : V × Cells} (hp : C.prim f = none) (hS : C.fn f = some S) (h : bodyS C S args cells = some x) : ev C f args cells = some x :=
  ev_fn hp hS (bodyS_ok h)

/-- A function of the program on data. -/
theorem ev1_fn {C : Cfg} {f : FuncId} {S : SFunc} {args : List V} {r : V} (hp : C.prim f = none) (hS : C.fn f = some S) (h : (bodyS C S args []).map Prod.fst = some r) (hr : r.refs = []) : ev1 C f args = some r := by
  cases hx : bodyS C S args [] with
  | none => simp [hx] at h
  | some x =>
    obtain ⟨r', cs⟩ := x
    simp only [hx, Option.map_some, Option.some.injEq] at h; subst h
    exact ev1_of (ev_fnS hp hS hx) hr

theorem ev1_pure {C : Cfg} {f : FuncId} {p : List V → Option V} {args : List V} {r : V} (hp : C.prim f = some (pureP p)) (h : p args = some r) (hr : r.refs = []) : ev1 C f args = some r :=
  ev1_of (ev_prim hp (show pureP p args [] = some (r, []) by simp [pureP, h])) hr

/-- By the kernel, for a closed call. -/
theorem ev1_run {C : Cfg} {f : FuncId} {args : List V} {r : V} (n : Nat) (h : (evalFn C n f args []).map Prod.fst = some r) (hr : r.refs = []) : ev1 C f args = some r := by
  cases hx : evalFn C n f args [] with
  | none => simp [hx] at h
  | some x =>
    obtain ⟨r', cs⟩ := x
    simp only [hx, Option.map_some, Option.some.injEq] at h; subst h
    exact ev1_of (ev_some.2 ⟨n, hx⟩) hr

/-- A loop, from a state. -/
noncomputable def loopS (C : Cfg) (c : SCode) (ks ts : List Nat) (σ : St) : Option (EX × St) := iterL ks ts (evalS C c) σ

/-! ## As rewriting: nothing is looked at before what it hangs on is known -/
noncomputable def bindS (C : Cfg) (id i : Nat) (l : List SOpr) (dst : Option Nat) (σ : St) (x : Option Eff) : Option St :=
  match x with
  | some e => stepsS C id i l (σ.put dst e)
  | none => none
noncomputable def bindIS (C : Cfg) (id i : Nat) (l : List SOpr) (o : SOpr) (σ : St) (x : Option Eff) : Option (St × List Info) :=
  match x with
  | some e => match stepsIS C id i l (σ.put o.dst e) with
    | none => none
    | some (σ', is) => some (σ', infoOf C.gl o σ e :: is)
  | none => none
def consI (x : Option (St × List Info)) (y : Info) : Option (St × List Info) :=
  match x with
  | none => none
  | some (σ', is) => some (σ', y :: is)
noncomputable def seqE (C : Cfg) (x : Option (EX × St)) (b : SCode) : Option (EX × St) :=
  match x with
  | some (.normal, σ') => evalS C b σ'
  | r => r
def blockE (x : Option (EX × St)) (id : Nat) : Option (EX × St) :=
  match x with
  | some (.exit j, σ') => if j = id then some (.normal, σ') else some (.exit j, σ')
  | r => r
noncomputable def condE (C : Cfg) (v : V) (a b : SCode) (σ : St) : Option (EX × St) :=
  match v with
  | .d (.bool true) => evalS C a σ
  | .d (.bool false) => evalS C b σ
  | _ => none
noncomputable def wantE (C : Cfg) (T : Nat) (op : SOp) (σ : St) (x : Option Bool) : Option Eff :=
  match x with
  | none => none
  | some false => some { res := .skp }
  | some true => evalOpS C T op (σ.val C.gl) σ.get
def regE (x : Option St) (drop : List Nat) : Option (EX × St) :=
  match x with
  | some σ' => some (.normal, { σ' with env := σ'.env.drop drop })
  | none => none
def regIE (x : Option (St × List Info)) (chk : List (Nat × Nat)) (drop : List Nat) : Option (EX × St) :=
  match x with
  | some (σ', is) => if chk.all (fun p => indepAt is p.1 p.2) = true then some (.normal, { σ' with env := σ'.env.drop drop }) else none
  | none => none
def checkE (b : Bool) (x : Option (EX × St)) : Option (EX × St) :=
  match b with
  | true => x
  | false => none
noncomputable def finE (x : Option (EX × St)) (rs : List SRes) : Option (V × Cells) :=
  match x with
  | some (.normal, σ) | some (.ret, σ) => result rs σ
  | _ => none

section
variable {C : Cfg} {σ σ' : St} {c a b : SCode} {ks ts : List Nat} {r : EX × St} {id i j T : Nat} {l : List SOpr} {o : SOpr} {op : SOp} {dst : Option Nat} {e : Eff} {drop : List Nat} {rs : List SRes} {is : List Info} {y : Info} {chk : List (Nat × Nat)}
@[simp] theorem bindS_some : bindS C id i l dst σ (some e) = stepsS C id i l (σ.put dst e) := Eq.trans rfl rfl
@[simp] theorem bindS_none : bindS C id i l dst σ none = none := Eq.trans rfl rfl
@[simp] theorem bindIS_some : bindIS C id i l o σ (some e) = consI (stepsIS C id i l (σ.put o.dst e)) (infoOf C.gl o σ e) := Eq.trans rfl rfl
@[simp] theorem bindIS_none : bindIS C id i l o σ none = none := Eq.trans rfl rfl
@[simp] theorem consI_some : consI (some (σ', is)) y = some (σ', y :: is) := Eq.trans rfl rfl
@[simp] theorem consI_none : consI none y = none := Eq.trans rfl rfl
@[simp] theorem seqE_normal : seqE C (some (.normal, σ)) b = evalS C b σ := Eq.trans rfl rfl
@[simp] theorem seqE_exit : seqE C (some (.exit j, σ)) b = some (.exit j, σ) := Eq.trans rfl rfl
@[simp] theorem seqE_ret : seqE C (some (.ret, σ)) b = some (.ret, σ) := Eq.trans rfl rfl
@[simp] theorem seqE_none : seqE C none b = none := Eq.trans rfl rfl
@[simp] theorem blockE_normal : blockE (some (.normal, σ)) id = some (.normal, σ) := Eq.trans rfl rfl
@[simp] theorem blockE_exit : blockE (some (.exit j, σ)) id = if j = id then some (.normal, σ) else some (.exit j, σ) := Eq.trans rfl rfl
@[simp] theorem blockE_ret : blockE (some (.ret, σ)) id = some (.ret, σ) := Eq.trans rfl rfl
@[simp] theorem condE_true : condE C (.d (.bool true)) a b σ = evalS C a σ := Eq.trans rfl rfl
@[simp] theorem condE_false : condE C (.d (.bool false)) a b σ = evalS C b σ := Eq.trans rfl rfl
@[simp] theorem wantE_true : wantE C T op σ (some true) = evalOpS C T op (σ.val C.gl) σ.get := Eq.trans rfl rfl
@[simp] theorem wantE_false : wantE C T op σ (some false) = some { res := .skp } := Eq.trans rfl rfl
@[simp] theorem regE_some : regE (some σ) drop = some (.normal, { σ with env := σ.env.drop drop }) := Eq.trans rfl rfl
@[simp] theorem checkE_true {x : Option (EX × St)} : checkE true x = x := Eq.trans rfl rfl
@[simp] theorem checkE_false {x : Option (EX × St)} : checkE false x = none := Eq.trans rfl rfl
@[simp] theorem regIE_some : regIE (some (σ, is)) chk drop = checkE (chk.all (fun p => indepAt is p.1 p.2)) (some (.normal, { σ with env := σ.env.drop drop })) := by
  simp only [regIE]
  cases chk.all (fun p => indepAt is p.1 p.2) <;> rfl
@[simp] theorem finE_normal : finE (some (.normal, σ)) rs = result rs σ := Eq.trans rfl rfl
@[simp] theorem finE_ret : finE (some (.ret, σ)) rs = result rs σ := Eq.trans rfl rfl

@[simp] theorem evalS_skip : evalS C .skip σ = some (.normal, σ) := Eq.trans rfl rfl
@[simp] theorem evalS_region {ops : List SOpr} {dr : Bool} : evalS C (.region id ops dr [] drop) σ = regE (stepsS C id 0 ops σ) drop := by
  simp only [evalS, regE]
@[simp] theorem evalS_regionI {ops : List SOpr} {dr : Bool} {p : Nat × Nat} {ps : List (Nat × Nat)} : evalS C (.region id ops dr (p :: ps) drop) σ = regIE (stepsIS C id 0 ops σ) (p :: ps) drop := by
  simp only [evalS, regIE]
@[simp] theorem evalS_seq : evalS C (.seq a b) σ = seqE C (evalS C a σ) b := Eq.trans rfl rfl
@[simp] theorem evalS_cond {x : X} : evalS C (.cond x a b) σ = condE C (σ.val C.gl x) a b σ := Eq.trans rfl rfl
@[simp] theorem evalS_block : evalS C (.block id c) σ = blockE (evalS C c σ) id := Eq.trans rfl rfl
@[simp] theorem evalS_loop : evalS C (.loop c) σ = loopS C c (σ.env.map Prod.fst) (σ.cells.map Prod.fst) σ := Eq.trans rfl rfl
@[simp] theorem evalS_exit : evalS C (.exit id) σ = some (.exit id, σ) := Eq.trans rfl rfl
@[simp] theorem evalS_ret : evalS C .ret σ = some (.ret, σ) := Eq.trans rfl rfl
@[simp] theorem stepsS_nil : stepsS C id i [] σ = some σ := Eq.trans rfl rfl
@[simp] theorem stepsS_cons : stepsS C id i (o :: l) σ = bindS C id (i + 1) l o.dst σ (stepS C (tagOf id i) o σ) := by
  simp only [stepsS, bindS]
  cases stepS C (tagOf id i) o σ <;> rfl
@[simp] theorem stepsIS_nil : stepsIS C id i [] σ = some (σ, []) := Eq.trans rfl rfl
@[simp] theorem stepsIS_cons : stepsIS C id i (o :: l) σ = bindIS C id (i + 1) l o σ (stepS C (tagOf id i) o σ) := by
  simp only [stepsIS, bindIS]
  cases stepS C (tagOf id i) o σ <;> rfl
@[simp] theorem stepS_eq : stepS C T o σ = wantE C T o.op σ (wants σ o.guard) := Eq.trans rfl rfl
@[simp] theorem bodyS_eq {S : SFunc} {args : List V} {cells : Cells} : bodyS C S args cells = if args.length = S.nparams then finE (evalS C S.code { env := numbered 0 args, cells := cells }) S.results else none := Eq.trans rfl rfl

theorem loopS_step (h : evalS C c σ = some (.normal, σ')) (h' : loopS C c ks ts (σ'.norm ks ts) = some r) : loopS C c ks ts σ = some r := iterL_step h h'
theorem loopS_exit (h : evalS C c σ = some (.exit j, σ')) : loopS C c ks ts σ = some (.exit j, σ') := iterL_exit h
theorem loopS_ret (h : evalS C c σ = some (.ret, σ')) : loopS C c ks ts σ = some (.ret, σ') := iterL_ret h
end

/-- A loop that goes on 'n' times and then leaves. -/
theorem loopS_upto {C : Cfg} {c : SCode} {ks ts : List Nat} (enc : Nat → St) (n : Nat) {x : EX} {σ : St} (hx : x ≠ .normal)
    (hs : ∀ i, i < n → ∃ σ', evalS C c (enc i) = some (.normal, σ') ∧ σ'.norm ks ts = enc (i + 1)) (he : evalS C c (enc n) = some (x, σ)) : loopS C c ks ts (enc 0) = some (x, σ) := by
  have key : ∀ k i, i + k = n → loopS C c ks ts (enc i) = some (x, σ) := by
    intro k
    induction k with
    | zero =>
      intro i hi
      obtain rfl : i = n := by omega
      cases x with
      | normal => exact absurd rfl hx
      | exit j => exact loopS_exit he
      | ret => exact loopS_ret he
    | succ k ih =>
      intro i hi
      obtain ⟨σ', h1, h2⟩ := hs i (by omega)
      exact loopS_step h1 (by rw [h2]; exact ih (i + 1) (by omega))
  exact key n 0 (by omega)

attribute [simp] V.toDs SOp.xs evalOpS callS indepAt infoOf Info.indep readTags wrTags disj noDup wrRefs wholeAt V.wholeL V.whole Cell.whole

end Go.Ev
end
