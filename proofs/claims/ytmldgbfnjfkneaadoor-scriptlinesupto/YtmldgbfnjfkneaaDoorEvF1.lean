
import Derived.Test.YtmldgbfnjfkneaaDoorProg
import Derived.Shelf.Strings.Builder1
import Derived.KernelRfl
import Derived.Maps.RangeRun
import Derived.LoopTactic
import Derived.LoopN
import Derived.ProofKit
import Derived.Below
import Derived.Lib.Hide
import Derived.Test.YtmldgbfnjfkneaaDoorKC
import Derived.Test.YtmldgbfnjfkneaaDoorKD
set_option linter.all false
set_option linter.unusedVariables false
namespace Go.Proofs
open Go.Shelf Go.RowKit Go.Ev

theorem Tryd.find_type22 : True := trivial
/-- What a map of shapes reads as: its entries are (word, shape). -/
def shapeVal (kind : Int) (name : Bool) (nums : Int) (text : Bool) : Value := .agg #[.int .u8 kind, .bool name, .int .i64 nums, .bool text]

def ShRow.entry (r : ShRow) : Value × Value := (.string ⟨r.word.toArray⟩, shapeVal r.kind r.name r.nums r.text)

def ShapesPost (rows : List ShRow) (w : World) (e : Ending) (w' : World) : Prop :=
  ∃ r es clk, e = .returned (.map (some r)) ∧ Below w.heap.size w w' ∧ w'.heap[r]? = some (.map es clk) ∧ mapWf es clk ∧ (es.toList.map fun x => (x.key, x.val)) = rows.map ShRow.entry

def FindPost (rows : List ShRow) (k : Int) (w : World) (e : Ending) (w' : World) : Prop :=
  Below w.heap.size w w' ∧ ((∃ r ∈ rows, r.kind = k ∧ e = .returned (.tuple #[.string ⟨r.word.toArray⟩, shapeVal r.kind r.name r.nums r.text, .bool true])) ∨
    ((∀ r ∈ rows, r.kind ≠ k) ∧ e = .returned (.tuple #[.string ⟨#[]⟩, shapeVal 0 false 0 false, .bool false])))

theorem row_of_entry {rows : List ShRow} {es : Array MapEntry} (h : (es.toList.map fun x => (x.key, x.val)) = rows.map ShRow.entry) {x : MapEntry} (hx : x ∈ es.toList) : ∃ r ∈ rows, x.key = .string ⟨r.word.toArray⟩ ∧ x.val = shapeVal r.kind r.name r.nums r.text := by
  have : (x.key, x.val) ∈ es.toList.map fun x => (x.key, x.val) := List.mem_map.2 ⟨x, hx, rfl⟩
  rw [h] at this
  obtain ⟨r, hr, he⟩ := List.mem_map.1 this
  simp only [ShRow.entry, Prod.mk.injEq] at he
  exact ⟨r, hr, he.1.symm, he.2.symm⟩

/-- What a step of the iterator leaves. -/
theorem stepped {w wr w2 : World} {it bm clk : Nat} {seen : Array Nat} {es : Array MapEntry} {bo : Nat}
    (hit : wr.heap[it]? = some (.mapIter (some bm) clk seen clk)) (hmp : wr.heap[bm]? = some (.map es clk)) (hz : wr.heap[w.heap.size]? = some (.cells #[.int .u8 0, .bool false, .int .i64 0, .bool false] 48 (0, 0)))
    (hbl : Below w.heap.size w wr) (hsz : w.heap.size < wr.heap.size ∧ it < wr.heap.size) (hle : w.heap.size ≤ it) (h2 : w2 = wr ∨ w2 = wr.drew) :
    let w3 := ChangeMaps.setBlock w2 it (.mapIter (some bm) clk (seen.push bo) clk)
    w3.heap[it]? = some (.mapIter (some bm) clk (seen.push bo) clk) ∧ w3.heap[bm]? = some (.map es clk) ∧ w3.heap[w.heap.size]? = some (.cells #[.int .u8 0, .bool false, .int .i64 0, .bool false] 48 (0, 0)) ∧
      Below w.heap.size w w3 ∧ w3.heap.size = wr.heap.size := by
  have hh : w2.heap = wr.heap := by rcases h2 with rfl | rfl <;> rfl
  have e1 : it ≠ bm := fun e => by subst e; rw [hit] at hmp; cases hmp
  have e2 : it ≠ w.heap.size := fun e => by subst e; rw [hit] at hz; cases hz
  have hoth : ∀ j, it ≠ j → (ChangeMaps.setBlock w2 it (.mapIter (some bm) clk (seen.push bo) clk)).heap[j]? = wr.heap[j]? := fun j hj => by
    simp only [ChangeMaps.setBlock, Array.getElem?_setIfInBounds_ne hj, hh]
  refine ⟨?_, ?_, ?_, ?_, ?_⟩
  · simp [ChangeMaps.setBlock, hh, hsz.2]
  · rw [hoth _ e1]; exact hmp
  · rw [hoth _ e2]; exact hz
  · refine ⟨?_, ?_, ?_, ?_, fun j hj => ?_⟩
    · rcases h2 with rfl | rfl <;> exact hbl.os
    · rcases h2 with rfl | rfl <;> exact hbl.tape
    · rcases h2 with rfl | rfl <;> exact hbl.output
    · show w.heap.size ≤ (w2.heap.setIfInBounds _ _).size
      rw [Array.size_setIfInBounds, hh]; omega
    · rw [hoth j (by omega)]; exact hbl.block j hj
  · show (w2.heap.setIfInBounds _ _).size = _
    rw [Array.size_setIfInBounds, hh]

theorem entry_of_row {rows : List ShRow} {es : Array MapEntry} (h : (es.toList.map fun x => (x.key, x.val)) = rows.map ShRow.entry) {r : ShRow} (hr : r ∈ rows) : ∃ x ∈ es.toList, x.val = shapeVal r.kind r.name r.nums r.text := by
  have : r.entry ∈ es.toList.map fun x => (x.key, x.val) := by rw [h]; exact List.mem_map.2 ⟨r, hr, rfl⟩
  obtain ⟨x, hx, he⟩ := List.mem_map.1 this
  simp only [ShRow.entry, Prod.mk.injEq] at he
  exact ⟨x, hx, he.2⟩

theorem zero4 {wr : World} {b : Nat} (hz : wr.heap[b]? = some (.cells #[.int .u8 0, .bool false, .int .i64 0, .bool false] 48 (0, 0))) :
    wr.cell? ⟨b, 0, none⟩ = some (.int .u8 0) ∧ wr.cell? ⟨b, 1, none⟩ = some (.bool false) ∧ wr.cell? ⟨b, 2, none⟩ = some (.int .i64 0) ∧ wr.cell? ⟨b, 3, none⟩ = some (.bool false) ∧
    wr.frozen? ⟨b, 0, none⟩ = false ∧ wr.frozen? ⟨b, 1, none⟩ = false ∧ wr.frozen? ⟨b, 2, none⟩ = false ∧ wr.frozen? ⟨b, 3, none⟩ = false := by
  simp [World.cell?, World.frozen?, hz]

set_option maxHeartbeats 4000000 in
set_option maxRecDepth 100000 in
theorem Tryd.find_walk {rows : List ShRow} (hsh : ∀ w, Calls Tryd.prog 25 #[] w (ShapesPost rows w)) (k : Int) (w : World) :
    Calls Tryd.prog 17 #[.int .u8 k] w (FindPost rows k w) := by
  have hund : Tryd.prog.underlying 63 = some (.map 9 48) := by kernel_rfl
  go_enter Tryd.func17, Tryd.ntmps17
  go_wp2_with (go_at_call 25; refine (hsh _).mono ?_; rintro e w1 ⟨bm, es, clk, rfl, hb, hm, hwf, hrows⟩; have hrg := run_range_map (P := Tryd.prog) w1 63 9 48 bm es clk hund hm)
  have HB : Hid (Below (w.alloc (.cells #[.int .u8 0, .bool false, .int .i64 0, .bool false] 48)).heap.size (w.alloc (.cells #[.int .u8 0, .bool false, .int .i64 0, .bool false] 48)) w1) := hb
  have HM : Hid (w1.heap[bm]? = some (.map es clk)) := hm
  have HR : Hid ((es.toList.map fun x => (x.key, x.val)) = rows.map ShRow.entry) := hrows
  have hle : w.heap.size < w1.heap.size := by have := hb.size; simp at this; omega
  clear hb hm hrg hrows
  go_loopw [] (fun wr => ∃ seen, Hid (wr.heap[w1.heap.size]? = some (.mapIter (some bm) clk seen clk)) ∧ Hid (wr.heap[bm]? = some (.map es clk)) ∧ Hid (wr.heap[w.heap.size]? = some (.cells #[.int .u8 0, .bool false, .int .i64 0, .bool false] 48 (0, 0))) ∧
      Hid (Below w.heap.size w wr) ∧ Hid (w.heap.size < wr.heap.size ∧ w1.heap.size < wr.heap.size) ∧ Hid (∀ x ∈ es.toList, seen.contains x.born = true → ∀ r ∈ rows, x.val = shapeVal r.kind r.name r.nums r.text → r.kind ≠ k)) (fun wr => (leftOf es (wr.iterSeen w1.heap.size)).size)
  case atStart =>
    have hbm : bm < w1.heap.size := (Array.getElem?_eq_some_iff.1 HM.out).1
    refine ⟨#[], heap_alloc_new _ _, ?_, ?_, ?_, ?_, fun x _ h => by simp at h⟩
    · show (w1.alloc _).heap[bm]? = _
      rw [heap_alloc_old _ _ hbm]; exact HM.out
    · show (w1.alloc _).heap[w.heap.size]? = _
      rw [heap_alloc_old _ _ hle, HB.out.block _ (by simp)]
      exact heap_alloc_new _ _
    · exact (((Below.refl _ w).alloc (Nat.le_refl _) _).trans (HB.out.mono (by simp))).alloc (by omega) _
    · exact ⟨by simp; omega, by simp⟩
  case round =>
    obtain ⟨seen, hit, hmp, hz, hbl, hsz, hno⟩ := hrel
    have law := fun ty => run_next_at (P := Tryd.prog) wr ty w1.heap.size bm clk clk seen es clk hit.out hmp.out hwf.1 (Nat.le_refl _)
    have hms : wr.iterSeen w1.heap.size = seen := by unfold World.iterSeen; rw [hit.out]
    rcases law 0 with ⟨h0, hrun⟩ | ⟨e, he, w2, hal2, hrun⟩
    · have hrun' : ∀ ty, (Instr.next (.pointer (some ⟨w1.heap.size, 0, none⟩)) false ty).run Tryd.prog wr = .ok (.tuple #[.bool false]) wr := fun _ => hrun
      clear law hrun hms
      obtain ⟨c0, c1, c2, c3, f0, f1, f2, f3⟩ := zero4 hz.out
      go_wp2
      refine bodyPost_ret (v := .tuple #[.string ⟨#[]⟩, shapeVal 0 false 0 false, .bool false]) (by simp [results, Tryd.results17, go_sem, shapeVal, c0, c1, c2, c3]) rfl ⟨?_, .inr ⟨fun r hr hk => ?_, rfl⟩⟩
      · exact (((hbl.out.setCell (Nat.le_refl _) _).setCell (Nat.le_refl _) _).setCell (Nat.le_refl _) _).setCell (Nat.le_refl _) _
      · obtain ⟨x, hx, hxv⟩ := entry_of_row HR.out hr
        exact hno.out x hx (all_seen es seen h0 x hx) r hr hxv hk
    · have hrun' : ∀ ty, (Instr.next (.pointer (some ⟨w1.heap.size, 0, none⟩)) false ty).run Tryd.prog wr = .ok (.tuple #[.bool true, e.key, e.val]) (ChangeMaps.setBlock w2 w1.heap.size (.mapIter (some bm) clk (seen.push e.born) clk)) := fun _ => hrun
      clear law hrun
      obtain ⟨g1, g2, g3, g4, g5⟩ := stepped (bo := e.born) hit.out hmp.out hz.out hbl.out hsz.out (by omega) hal2
      generalize hw3 : ChangeMaps.setBlock w2 w1.heap.size (.mapIter (some bm) clk (seen.push e.born) clk) = w3 at hrun' g1 g2 g3 g4 g5
      have hen := run_entry_at (P := Tryd.prog) w3 w1.heap.size bm clk seen es clk e g1 g2 (mem_left he).1 hwf.2
      obtain ⟨r, hr, hk, hv⟩ := row_of_entry HR.out (mem_left he).1
      have HV : Hid (e.val = shapeVal r.kind r.name r.nums r.text) := hv
      rw [hk, hv] at hrun' hen
      unfold shapeVal at hrun' hen
      have G1 := Lib.hid g1
      have G2 := Lib.hid g2
      have G3 := Lib.hid g3
      have G5 := Lib.hid g5
      have HA := Lib.hid hal2
      obtain ⟨c0, c1, c2, c3, f0, f1, f2, f3⟩ := zero4 g3
      clear g1 g2 g3 g5 hw3 hv hk hal2 hms
      by_cases hkk : r.kind = k
      · have hd : (r.kind == k) = true := by simp [hkk]
        have HK := Lib.hid hkk
        clear hkk
        have mixed : Tryd.prog.follows .mixedOrders = true := by kernel_rfl
        have G3' : ((w3.alloc (.cells #[.int .u8 r.kind, .bool r.name, .int .i64 r.nums, .bool r.text] 48)).drew).heap[w.heap.size]? = some (.cells #[.int .u8 0, .bool false, .int .i64 0, .bool false] 48 (0, 0)) := by
          show (w3.alloc _).heap[w.heap.size]? = _
          rw [heap_alloc_old _ _ (Array.getElem?_eq_some_iff.1 G3.out).1]; exact G3.out
        obtain ⟨d0, d1, d2, d3, x0, x1, x2, x3⟩ := zero4 G3'
        have G4 := Lib.hid G3'
        clear G3'
        have hlt3 := (Array.getElem?_eq_some_iff.1 G3.out).1
        have hn1 : ¬ w.heap.size = w3.heap.size := by omega
        have hn2 : ¬ w3.heap.size = w.heap.size := by omega
        go_wp2
        go_region_o
        all_goals go_wp2
        all_goals refine bodyPost_ret (v := .tuple #[.string ⟨r.word.toArray⟩, shapeVal r.kind r.name r.nums r.text, .bool true]) (by simp [results, Tryd.results17, go_sem, shapeVal, hlt3, c0, c1, c2, c3]) rfl ⟨?_, .inl ⟨r, hr, HK.out, rfl⟩⟩
        all_goals repeat (first | exact g4 | apply Below.drew | apply Below.setCell | exact Nat.le_refl _ | (refine Below.alloc ?_ (by simp; omega) _))
      · have hd : (r.kind == k) = false := by simp [hkk]
        go_wp2
        go_roundw
        case rel =>
          have hne := (Array.getElem?_eq_some_iff.1 G1.out).1
          refine ⟨seen.push e.born, ?_, ?_, ?_, g4.alloc (by omega) _, ?_, fun x hx hc r' hr' hv' => ?_⟩
          · show (w3.alloc _).heap[w1.heap.size]? = _
            rw [heap_alloc_old _ _ hne]; exact G1.out
          · show (w3.alloc _).heap[bm]? = _
            rw [heap_alloc_old _ _ (Array.getElem?_eq_some_iff.1 G2.out).1]; exact G2.out
          · show (w3.alloc _).heap[w.heap.size]? = _
            rw [heap_alloc_old _ _ (Array.getElem?_eq_some_iff.1 G3.out).1]; exact G3.out
          · have := hsz.out; have := G5.out; constructor <;> simp <;> omega
          · rw [contains_push] at hc
            rcases Bool.or_eq_true _ _ ▸ hc with h1 | h1
            · exact hno.out x hx h1 r' hr' hv'
            · have : x = e := born_inj hwf.2 hx (mem_left he).1 (beq_iff_eq.1 h1)
              subst this
              rw [HV.out] at hv'
              simp only [shapeVal, Value.agg.injEq] at hv'
              simp at hv'
              rw [← hv'.1]; exact hkk
        case measure =>
          have hne := (Array.getElem?_eq_some_iff.1 G1.out).1
          have e1 : (w3.alloc (Obj.cells #[Value.int IntKind.u8 r.kind, Value.bool r.name, Value.int IntKind.i64 r.nums, Value.bool r.text] 48)).iterSeen w1.heap.size = seen.push e.born := by
            unfold World.iterSeen; rw [heap_alloc_old _ _ hne, G1.out]
          have e2 : wr.iterSeen w1.heap.size = seen := by unfold World.iterSeen; rw [hit.out]
          rw [e1, e2]
          exact left_shrinks es seen e he
end Go.Proofs
