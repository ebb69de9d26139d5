/- This seat: what the listed variables give, a world for the witness. -/
import Derived.Test.YtglggojbbenobaaGreatDoorEvC1
import Derived.Test.YtglggojbbenobaaGreatDoorKC
import Derived.Test.YtglggojbbenobaaGreatDoorCards
import Derived.Test.YtglggojbbenobaaGreatDoorTie
import Derived.Deep.DeepHandedRow
import Derived.Deep.DeepWitnessRowRef
import Derived.Lib.LaidTab
import Derived.Lib.LaidU8
import Derived.ProofKit
set_option linter.all false
set_option linter.unusedVariables false
namespace Go.Proofs.YtglggojbbenobaaGreatDoor
open Go.ChangeShapes Go.WideShapes Go.ChangeAt Go.RowKit Go.Ev Go.Ev.S

theorem own : ownKnob Tryz.prog.godebug = none := by kernel_rfl
theorem laidOut : laidOutB Tryz.prog = true := by kernel_rfl

/-! ## What the listed variables give -/
theorem tab_at {laid : List (String × DataW Unit)} {W : World} (h : laidMet Tryz.prog laid W) {name : String} {k : IntKind} {zs : List Int} {g : Nat} {t e : TypeId} {n : Nat} (hm : (name, Lib.tabData k zs) ∈ laid)
    (hg : Tryz.prog.globalNamed name = some g) (hty : (Tryz.prog.globals[g]?).map (·.type) = some t) (ht : Tryz.prog.underlying t = some (.array n e)) (he : Tryz.prog.underlying e = some (.int k)) (hce : Tryz.prog.cellsOf e = 1) (hct : Tryz.prog.cellsOf t = n) :
    ∃ c el fr, heapOf W g = some (.cells c el fr) ∧ RD (heapOf W) (ints k zs) c.toList := by
  obtain ⟨g', t', cs, fuel, p, hg', ht', hvar, hd⟩ := Lib.laidMet.reads h hm
  obtain rfl := Option.some.inj (hg.symm.trans hg')
  obtain rfl := Option.some.inj (hty.symm.trans ht')
  have hz := Lib.cells_of_tab ht he hce hct hd
  unfold World.var? at hvar
  rw [hg] at hvar
  simp only [Option.bind_some] at hvar
  split at hvar
  · rename_i c el fr hh
    simp only [Option.some.injEq] at hvar
    subst hvar
    refine ⟨c, el, fr, hh, ?_⟩
    rw [hz]
    have : ∀ l : List Int, RDs (heapOf W) (l.map (D.int k)) (l.map fun z => Value.int k z) := by
      intro l
      induction l with
      | nil => exact .nil
      | cons x l ih => exact .cons (cs := [_]) (.int _ _) ih
    exact .agg (this zs)
  · cases hvar

theorem err_at {laid : List (String × DataW Unit)} {W : World} (h : laidMet Tryz.prog laid W) {name : String} {d : DataW Unit} {g : Nat} {t : TypeId} (hm : (name, d) ∈ laid) (hne : (match d with | .iface _ _ => true | _ => false) = true)
    (hg : Tryz.prog.globalNamed name = some g) (hty : (Tryz.prog.globals[g]?).map (·.type) = some t) (ht : (Tryz.prog.underlying t).map (fun x => match x with | .interface _ => true | _ => false) = some true) :
    ∃ c el fr, heapOf W g = some (.cells c el fr) ∧ RD (heapOf W) .err c.toList := by
  obtain ⟨g', t', cs, fuel, p, hg', ht', hvar, hd⟩ := Lib.laidMet.reads h hm
  obtain rfl := Option.some.inj (hg.symm.trans hg')
  obtain rfl := Option.some.inj (hty.symm.trans ht')
  have hz : ∃ u v, cs.toList = [.iface u v] := by
    cases fuel with
    | zero => simp [DataW.trod] at hd
    | succ fuel =>
      unfold DataW.trod at hd
      cases hu : Tryz.prog.underlying t with
      | none => simp [hu] at ht
      | some x =>
        cases x <;> simp [hu] at ht
        simp only [hu] at hd
        split at hd <;> simp_all
        obtain ⟨rfl, _⟩ := hd
        simp at hne
  obtain ⟨u, v, hz⟩ := hz
  unfold World.var? at hvar
  rw [hg] at hvar
  simp only [Option.bind_some] at hvar
  split at hvar
  · rename_i c el fr hh
    simp only [Option.some.injEq] at hvar
    subst hvar
    exact ⟨c, el, fr, hh, by rw [hz]; exact .err u v⟩
  · cases hvar

set_option maxRecDepth 100000 in
theorem int_of_shape {w : World} {g : Nat} {t : TypeId} {zero : Array Value} (h : w.ShapedOpen Tryz.prog) (hg : g < Tryz.prog.globals.size)
    (h0 : ((begin Tryz.prog (fun _ _ => 0) default).world.heap[g]?).bind Obj.row? = some (zero, t)) (hz : zero.size = 1)
    (hb : Tryz.prog.buildable t = true) (hc : Tryz.prog.cellTypes Tryz.prog.depth t = some [t]) (hu : Tryz.prog.underlying t = some (.int .i64)) : ∃ m el fr, heapOf w g = some (.cells #[.int .i64 m] el fr) := by
  obtain ⟨cs, hh, hs, hr⟩ := h.1 g zero t hg h0
  obtain ⟨ts, hts, _, hall⟩ := hr hb
  rw [hc] at hts
  cases hts
  obtain ⟨v, rfl⟩ := Array.size_eq_one_iff.1 (hs.trans hz)
  obtain ⟨u, hu', hok⟩ := hall 0 v rfl
  have : u = t := by simpa using hu'.symm
  subst this
  unfold Cell.ok at hok
  rw [hu] at hok
  have : ∃ n, v = .int .i64 n := by
    cases v with
    | int k n => obtain ⟨rfl, _⟩ := hok; exact ⟨n, rfl⟩
    | _ => exact hok.elim
  obtain ⟨n, rfl⟩ := this
  exact ⟨n, _, _, hh⟩

abbrev laidL : List (String × DataW Unit) := Rows.asmFormatsRow.laid

set_option maxRecDepth 100000 in
theorem glob_ok {W : World} (hL : laidMet Tryz.prog laidL W) (hsh : W.ShapedOpen Tryz.prog) : ∃ m, GlOk (glob m) (heapOf W) := by
  obtain ⟨m, el, fr, hm⟩ := int_of_shape (g := 0) hsh (of_decide_eq_true (by kernel_rfl)) (zero := #[.int .i64 0]) (t := 3) (by kernel_rfl) rfl (by kernel_rfl) (by kernel_rfl) (by kernel_rfl)
  refine ⟨m, fun g x hx => ?_⟩
  unfold glob at hx
  split at hx
  · cases hx; exact ⟨_, _, _, hm, .int _ _⟩
  · cases hx; exact tab_at hL (name := "internal/strconv.uint64pow10") (t := 162) (e := 102) (n := 20) (List.mem_of_find?_eq_some (p := fun x => x.1 == "internal/strconv.uint64pow10") (by kernel_rfl)) (by kernel_rfl) (by kernel_rfl) (by kernel_rfl) (by kernel_rfl) (by kernel_rfl) (by kernel_rfl)
  · cases hx; exact err_at hL (name := "strconv.ErrSyntax") (d := Rows.laid_strconv_ErrSyntax) (t := 63) (List.mem_of_find?_eq_some (p := fun x => x.1 == "strconv.ErrSyntax") (by kernel_rfl)) rfl (by kernel_rfl) (by kernel_rfl) (by kernel_rfl)
  · cases hx; exact err_at hL (name := "strconv.ErrRange") (d := Rows.laid_strconv_ErrRange) (t := 63) (List.mem_of_find?_eq_some (p := fun x => x.1 == "strconv.ErrRange") (by kernel_rfl)) rfl (by kernel_rfl) (by kernel_rfl) (by kernel_rfl)
  · cases hx

mutual
theorem bulk_le {H : Type} : ∀ {d : DataW H} {x : D}, Img d x → D.bulk x ≤ Rows.uptoBulk d
  | _, _, .int k n => by simp [D.bulk, Rows.uptoBulk]
  | _, _, .bool b => by simp [D.bulk, Rows.uptoBulk]
  | _, _, .str s => by simp [D.bulk, Rows.uptoBulk]
  | _, _, .nil => by simp [D.bulk, D.bulks, Rows.uptoBulk]
  | _, _, .sl h => by have := bulks_le h; simp only [D.bulk, Rows.uptoBulk]; omega
  | _, _, .agg h => by have := bulks_le h; simp only [D.bulk, Rows.uptoBulk]; omega
theorem bulks_le {H : Type} : ∀ {ds : List (DataW H)} {xs : List D}, Imgs ds xs → D.bulks xs ≤ Rows.uptoBulkAll ds
  | _, _, .nil => by simp [D.bulks, Rows.uptoBulkAll]
  | _, _, .cons h h' => by have := bulk_le h; have := bulks_le h'; simp only [D.bulks, Rows.uptoBulkAll]; omega
end

/-! ## A world for the witness -/
def flat : DataW Unit → List Value
  | .lit (.int k n) => [.int k n]
  | .lit (.bool b) => [.bool b]
  | .lit (.string s) => [.string ⟨s.toArray⟩]
  | .agg ps => flats ps
  | _ => []
  where flats : List (DataW Unit) → List Value
  | [] => []
  | d :: ds => flat d ++ flats ds

noncomputable def laidWorld (os : Os) : World :=
  let N := (World.settled Tryz.prog os).heap.size
  let w0 := World.holding Tryz.prog os ⟨#[.cells #[.string ⟨#[118, 97, 108, 117, 101, 32, 111, 117, 116, 32, 111, 102, 32, 114, 97, 110, 103, 101]⟩] 178, .cells #[.string ⟨#[105, 110, 118, 97, 108, 105, 100, 32, 115, 121, 110, 116, 97, 120]⟩] 178], #[], []⟩
  let put (h : Array Obj) (g : Nat) (cs : Array Value) : Array Obj := h.modify g fun
    | .cells _ t frozen => .cells cs t frozen
    | o => o
  let h := w0.heap
  let h := put h 6 (flat Rows.laid_math_bits_deBruijn32tab).toArray
  let h := put h 7 (flat Rows.laid_math_bits_deBruijn64tab).toArray
  let h := put h 3 (flat Rows.laid_internal_strconv_uint64pow10).toArray
  let h := put h 5 (flat Rows.laid_unicode_utf8_acceptRanges).toArray
  let h := put h 4 (flat Rows.laid_unicode_utf8_first).toArray
  let h := put h 2 #[.iface 176 (.pointer (some ⟨N, 0, none⟩))]
  let h := put h 1 #[.iface 176 (.pointer (some ⟨N + 1, 0, none⟩))]
  { w0 with heap := h }

/-- No number twice, by bits. -/
def noTwice : Nat → List Nat → Bool
  | _, [] => true
  | m, k :: l => !Nat.testBit m k && noTwice (m ||| (1 <<< k)) l
theorem noTwice_ok : ∀ (l : List Nat) (m : Nat), noTwice m l = true → l.Nodup ∧ ∀ k ∈ l, Nat.testBit m k = false
  | [], _, _ => ⟨.nil, by simp⟩
  | k :: l, m, h => by
    simp only [noTwice, Bool.and_eq_true, Bool.not_eq_true'] at h
    obtain ⟨h1, h2⟩ := noTwice_ok l _ h.2
    have h3 : ∀ j, Nat.testBit (m ||| (1 <<< k)) j = (Nat.testBit m j || decide (j = k)) := fun j => by
      rw [Nat.testBit_or, Nat.one_shiftLeft, Nat.testBit_two_pow]
      congr 1
      simp [eq_comm]
    refine ⟨List.nodup_cons.2 ⟨fun hm => ?_, h1⟩, fun j hj => ?_⟩
    · have := h2 k hm
      rw [h3] at this
      simp at this
    · rcases List.mem_cons.1 hj with rfl | hj
      · exact h.1
      · have := h2 j hj
        rw [h3] at this
        simp at this
        exact this.1
def placeKey : MemPlace → Nat
  | .cell b off => 2 * (off * 1000 + b)
  | .map b => 2 * b + 1
theorem nodup_of_key {α : Type} {f : α → Nat} : ∀ {l : List α}, (l.map f).Nodup → l.Nodup
  | [], _ => .nil
  | x :: l, h => by
    simp only [List.map_cons, List.nodup_cons] at h
    exact List.nodup_cons.2 ⟨fun hx => h.1 (List.mem_map.2 ⟨x, hx, rfl⟩), nodup_of_key h.2⟩

theorem laidMet_of_bits {P : Program} {w : World} {l : List (String × DataW Unit)} (fuel : Nat) (h : (DataW.laidRun P w fuel (l.map (·.1))).map (·.1) = some l)
    (hr : (DataW.laidRun P w fuel (l.map (·.1))).map (fun x => noTwice 0 (x.2.map placeKey) && laidRowsB P w x.2) = some true) : laidMet P l w := by
  cases hx : DataW.laidRun P w fuel (l.map (·.1)) with
  | none => simp [hx] at h
  | some x =>
    obtain ⟨l', ps⟩ := x
    simp only [hx, Option.map_some, Option.some.injEq, Bool.and_eq_true] at h hr
    subst h
    exact laidMet_of_run fuel hx (decide_eq_true (nodup_of_key (noTwice_ok _ _ hr.1).1)) hr.2

theorem laid_met (os : Os) (args : Array Value) : laidMet Tryz.prog laidL ((laidWorld os).forCall (fun _ _ => 0) ⟨#[], args, []⟩).memory :=
  laidMet_of_bits 10 (by kernel_rfl) (by kernel_rfl)
end Go.Proofs.YtglggojbbenobaaGreatDoor
