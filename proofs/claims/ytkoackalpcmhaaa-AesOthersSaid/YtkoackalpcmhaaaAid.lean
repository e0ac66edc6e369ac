/- Small laws for the walks: a call by its contract, what lies below a block number, a new block's facts. Conditions: none. -/
import Derived.Test.YtkoackalpcmhaaaRel
import Derived.WalkKit
import Derived.WalkSpells
import Derived.WalkLawsBesides
import Derived.KernelRfl
import Derived.Handy
import Derived.Lib.Hide
import Derived.ChangeKeysEq
namespace Go.Proofs.Ytkoackalpcmhaaa
set_option linter.unusedVariables false
set_option linter.unusedSimpArgs false
open Go Go.RowKit

theorem bcell {W w1 : World} (hb : Below W.heap.size W w1) : (∀ b o, b < W.heap.size → w1.cell? ⟨b, o, none⟩ = W.cell? ⟨b, o, none⟩) ∧ (∀ b o, b < W.heap.size → w1.frozen? ⟨b, o, none⟩ = W.frozen? ⟨b, o, none⟩) :=
  ⟨fun b o h => hb.cell (p := ⟨b, o, none⟩) h, fun b o h => hb.frozen (p := ⟨b, o, none⟩) h⟩

theorem enters {P : Program} {f : FuncId} {fn : Func} (hf : P.funcs[f]? = some fn) (hname : (fn.name == "runtime.NumGoroutine") = false) (hb : fn.body.isSome = true) (args : Array Value) (w : World) : (callFunc f args).run P w = .ok (.enter f args) w := by
  have h1 : fn.name ≠ "runtime.NumGoroutine" := by simpa using hname
  obtain ⟨c, hc⟩ := Option.isSome_iff_exists.1 hb
  simp [callFunc, hf, h1, hc]

theorem run_call {P : Program} {oi : Oper} {a : Act} {w : World} {f : FuncId} {fn : Func} {ags : Array Operand} {ts : Array TypeId} (hf : P.funcs[f]? = some fn) (hname : (fn.name == "runtime.NumGoroutine") = false) (hb : fn.body.isSome = true) (args : Array Value)
    (hop : oi.op = .call { callee := .value (.func f), args := ags, argTypes := ts }) (hargs : ags.map a.eval = args) : (execOp a.eval oi).run P w = .ok (.enter f args) w := by
  have he := enters hf hname hb args w
  unfold execOp
  simp [hop, resolve, Deferred.ofValue, invoke, Act.eval, hargs, he]

/-- A call in a region that draws, by its contract. -/
theorem Rg.gives_call {P : Program} {o : Oper} {a : Act} {w : World} {R : Value → World → Prop} {f : FuncId} {fn : Func} {ags : Array Operand} {ts : Array TypeId} (hf : P.funcs[f]? = some fn) (hname : (fn.name == "runtime.NumGoroutine") = false) (hb : fn.body.isSome = true) (args : Array Value)
    (hop : o.op = .call { callee := .value (.func f), args := ags, argTypes := ts }) (hargs : ags.map a.eval = args)
    (h : Calls P f args w fun e w' => ∃ v, e = .returned v ∧ R v w') : Rg.gives P o a w R :=
  Rg.gives_enter (run_call hf hname hb args hop hargs) h

/-- A call in a plain region, by its contract: an arm of go_wp2_with. -/
theorem list_call {P : Program} {ops : Array Oper} {Q : Exit → Act → World → Prop} {rest : List Oper} {oi : Oper} {a : Act} {w : World} (N : Option Tmp) (hd : oi.dst = N) (hg : oi.guard = none) {f : FuncId} {fn : Func} {ags : Array Operand} {ts : Array TypeId} (hf : P.funcs[f]? = some fn) (hname : (fn.name == "runtime.NumGoroutine") = false) (hb : fn.body.isSome = true) (args : Array Value)
    (hop : oi.op = .call { callee := .value (.func f), args := ags, argTypes := ts }) (hargs : ags.map a.eval = args)
    (h : Calls P f args w fun e w' => ∃ v, e = .returned v ∧ wpList P ops Q rest (a.put N v) w') : wpList P ops Q (oi :: rest) a w := by
  refine wpList_plain hg fun K hK => ?_
  have hrun : (execOp a.eval oi).run P w = .ok (.enter f args) w := run_call hf hname hb args hop hargs
  unfold Oper.wp
  rw [hrun, Oper.upon_enter]
  refine h.mono fun e w'' hh => ?_
  obtain ⟨v, rfl, hk⟩ := hh
  subst hd
  exact hK _ _ hk

theorem eval_const_ (a : Act) (v : Value) : a.eval (.const v) = v := rfl
theorem eval_global_ (a : Act) (g : Nat) : a.eval (.global g) = .pointer (some ⟨g, 0, none⟩) := rfl

/-- Four cells of a block. -/
theorem cells4 {w : World} {b : Nat} {c0 c1 c2 c3 : Value} {t : TypeId} {mk : Nat × Nat} (h : w.heap[b]? = some (.cells #[c0, c1, c2, c3] t mk)) :
    w.cell? ⟨b, 0, none⟩ = some c0 ∧ w.cell? ⟨b, 1, none⟩ = some c1 ∧ w.cell? ⟨b, 2, none⟩ = some c2 ∧ w.cell? ⟨b, 3, none⟩ = some c3 := by
  simp [World.cell?, h]
theorem heap_set {w : World} {b i : Nat} {cs : Array Value} {t : TypeId} {mk : Nat × Nat} (h : w.heap[b]? = some (.cells cs t mk)) (u : Value) : (w.setCell ⟨b, i, none⟩ u).heap[b]? = some (.cells (cs.setIfInBounds i u) t mk) := by
  simp [World.setCell, Array.getElem?_modify, h]
theorem heap_set_ne {w : World} {b : Nat} {a : Addr} {o : Obj} (h : w.heap[b]? = some o) (hne : b ≠ a.block) (u : Value) : (w.setCell a u).heap[b]? = some o := (Below.heap_setCell w a u b hne).trans h
theorem set4 {w : World} {b : Nat} {c0 c1 c2 c3 : Value} {t : TypeId} {mk : Nat × Nat} (h : w.heap[b]? = some (.cells #[c0, c1, c2, c3] t mk)) (u0 u1 u2 u3 : Value) :
    ((((w.setCell ⟨b, 0, none⟩ u0).setCell ⟨b, 1, none⟩ u1).setCell ⟨b, 2, none⟩ u2).setCell ⟨b, 3, none⟩ u3).heap[b]? = some (.cells #[u0, u1, u2, u3] t mk) := by
  have := heap_set (i := 3) (heap_set (i := 2) (heap_set (i := 1) (heap_set (i := 0) h u0) u1) u2) u3
  simpa using this
theorem cells8 {w : World} {b : Nat} {c0 c1 c2 c3 c4 c5 c6 c7 : Value} {t : TypeId} {mk : Nat × Nat} (h : w.heap[b]? = some (.cells #[c0, c1, c2, c3, c4, c5, c6, c7] t mk)) :
    w.cell? ⟨b, 0, none⟩ = some c0 ∧ w.cell? ⟨b, 1, none⟩ = some c1 ∧ w.cell? ⟨b, 2, none⟩ = some c2 ∧ w.cell? ⟨b, 3, none⟩ = some c3 ∧ w.cell? ⟨b, 4, none⟩ = some c4 ∧ w.cell? ⟨b, 5, none⟩ = some c5 ∧ w.cell? ⟨b, 6, none⟩ = some c6 ∧ w.cell? ⟨b, 7, none⟩ = some c7 := by
  simp [World.cell?, h]
theorem heap_five {w : World} {b i0 i1 i2 i3 i4 : Nat} {cs : Array Value} {t : TypeId} {mk : Nat × Nat} (h : w.heap[b]? = some (.cells cs t mk)) (u0 u1 u2 u3 u4 : Value) :
    (((((w.setCell ⟨b, i0, none⟩ u0).setCell ⟨b, i1, none⟩ u1).setCell ⟨b, i2, none⟩ u2).setCell ⟨b, i3, none⟩ u3).setCell ⟨b, i4, none⟩ u4).heap[b]? = some (.cells (((((cs.setIfInBounds i0 u0).setIfInBounds i1 u1).setIfInBounds i2 u2).setIfInBounds i3 u3).setIfInBounds i4 u4) t mk) :=
  heap_set (heap_set (heap_set (heap_set (heap_set h u0) u1) u2) u3) u4
theorem heap_five' {w : World} {b i0 i1 i2 i3 i4 : Nat} {cs cs' : Array Value} {t : TypeId} {mk : Nat × Nat} {u0 u1 u2 u3 u4 : Value} (h : w.heap[b]? = some (.cells cs t mk)) (hc : ((((cs.setIfInBounds i0 u0).setIfInBounds i1 u1).setIfInBounds i2 u2).setIfInBounds i3 u3).setIfInBounds i4 u4 = cs') :
    (((((w.setCell ⟨b, i0, none⟩ u0).setCell ⟨b, i1, none⟩ u1).setCell ⟨b, i2, none⟩ u2).setCell ⟨b, i3, none⟩ u3).setCell ⟨b, i4, none⟩ u4).heap[b]? = some (.cells cs' t mk) := by
  subst hc; exact heap_five h u0 u1 u2 u3 u4
theorem heap_eight {w : World} {b : Nat} {c0 c1 c2 c3 c4 c5 c6 c7 : Value} {t : TypeId} {mk : Nat × Nat} (h : w.heap[b]? = some (.cells #[c0, c1, c2, c3, c4, c5, c6, c7] t mk)) (u0 u1 u2 u3 u4 u5 u6 u7 : Value) :
    ((((((((w.setCell ⟨b, 0, none⟩ u0).setCell ⟨b, 1, none⟩ u1).setCell ⟨b, 2, none⟩ u2).setCell ⟨b, 3, none⟩ u3).setCell ⟨b, 4, none⟩ u4).setCell ⟨b, 5, none⟩ u5).setCell ⟨b, 6, none⟩ u6).setCell ⟨b, 7, none⟩ u7).heap[b]? = some (.cells #[u0, u1, u2, u3, u4, u5, u6, u7] t mk) := by
  have := heap_set (i := 7) (heap_set (i := 6) (heap_set (i := 5) (heap_set (i := 4) (heap_set (i := 3) (heap_set (i := 2) (heap_set (i := 1) (heap_set (i := 0) h u0) u1) u2) u3) u4) u5) u6) u7
  simpa using this
theorem keep4 {w : World} {b b' : Nat} {o : Obj} (h : w.heap[b]? = some o) (hne : b ≠ b') (u0 u1 u2 u3 : Value) :
    ((((w.setCell ⟨b', 0, none⟩ u0).setCell ⟨b', 1, none⟩ u1).setCell ⟨b', 2, none⟩ u2).setCell ⟨b', 3, none⟩ u3).heap[b]? = some o :=
  heap_set_ne (heap_set_ne (heap_set_ne (heap_set_ne h hne _) hne _) hne _) hne _
theorem set4_below {N : Nat} {a w : World} {b : Nat} (h : Below N a w) (hb : N ≤ b) (u0 u1 u2 u3 : Value) :
    Below N a ((((w.setCell ⟨b, 0, none⟩ u0).setCell ⟨b, 1, none⟩ u1).setCell ⟨b, 2, none⟩ u2).setCell ⟨b, 3, none⟩ u3) :=
  (((h.setCell hb _).setCell hb _).setCell hb _).setCell hb _
theorem size4 {w : World} {b : Nat} {u0 u1 u2 u3 : Value} : ((((w.setCell ⟨b, 0, none⟩ u0).setCell ⟨b, 1, none⟩ u1).setCell ⟨b, 2, none⟩ u2).setCell ⟨b, 3, none⟩ u3).heap.size = w.heap.size := by simp [World.setCell]
theorem frozen_of {w : World} {b : Nat} {cs : Array Value} {t : TypeId} (h : w.heap[b]? = some (.cells cs t (0, 0))) : ∀ i, w.frozen? ⟨b, i, none⟩ = false := by
  intro i; simp [World.frozen?, h]
theorem lt_of_heap {w : World} {b : Nat} {o : Obj} (h : w.heap[b]? = some o) : b < w.heap.size := (Array.getElem?_eq_some_iff.1 h).1
theorem heap_keep {N : Nat} {w w1 : World} {b : Nat} {o : Obj} (hb : Below N w w1) (hlt : b < N) (h : w.heap[b]? = some o) : w1.heap[b]? = some o := (hb.block b hlt).trans h
theorem heap_keep' {w w1 : World} {b : Nat} {o : Obj} (hb : Below w.heap.size w w1) (h : w.heap[b]? = some o) : w1.heap[b]? = some o := heap_keep hb (lt_of_heap h) h
theorem heap_drew {w : World} {b : Nat} {o : Obj} (h : w.heap[b]? = some o) : w.drew.heap[b]? = some o := h
theorem heap_new (w : World) (o : Obj) : (w.alloc o).heap[w.heap.size]? = some o := heap_alloc_new w o
theorem heap_new' {w : World} {n : Nat} (h : w.heap.size = n) (o : Obj) : (w.alloc o).heap[n]? = some o := h ▸ heap_new w o
theorem heap_old {w : World} {b : Nat} {o : Obj} (h : w.heap[b]? = some o) (o' : Obj) : (w.alloc o').heap[b]? = some o := (Below.heap_alloc w o' b (lt_of_heap h)).trans h
theorem below_drew' {N : Nat} {w w1 : World} (h : Below N w.drew w1) : Below N w w1 := ⟨h.os, h.tape, h.output, h.size, h.block⟩

theorem eq_loop {P : Program} (w : World) (d : Nat) (e : TypeId) (k : IntKind) (xs ys : List Int) (he : P.underlying e = some (.int k)) (hpk : P.plainKey e = true) (hxy : xs.length = ys.length) :
    ∀ (m s : Nat), s + m = xs.length → (forIn (List.range' s m) ((none, ()) : Option Bool × Unit) fun i __s => (do
              let __do_lift ← part e (List.map (Value.int k) xs).toArray (i * 1)
              let __do_lift_1 ← part e (List.map (Value.int k) ys).toArray (i * 1)
              let __do_lift ← Op.equalIn (d + 1) e __do_lift __do_lift_1
              if (!__do_lift) = true then pure (ForInStep.done (some false, ())) else pure (ForInStep.yield (none, ())) : Sem (ForInStep (Option Bool × Unit)))).run P w = .ok (if xs.drop s == ys.drop s then none else some false, ()) w := by
  intro m
  induction m with
  | zero =>
    intro s hs
    have h1 : xs.drop s = [] := List.drop_eq_nil_of_le (by omega)
    have h2 : ys.drop s = [] := List.drop_eq_nil_of_le (by omega)
    simp [h1, h2]
  | succ m ih =>
    intro s hs
    have hx : (List.map (Value.int k) xs).toArray[s * 1]? = some (.int k (xs[s]'(by omega))) := by simp [show s < xs.length by omega]
    have hy : (List.map (Value.int k) ys).toArray[s * 1]? = some (.int k (ys[s]'(by omega))) := by simp [show s < ys.length by omega]
    have hih := ih (s + 1) (by omega)
    rw [List.range'_succ, List.forIn_cons]
    simp only [Sem.run_bind, run_part_plain w hpk hx, run_part_plain w hpk hy, Result.andThen_ok, run_equalIn_int w d e k k _ _ he]
    rw [show xs.drop s = xs[s]'(by omega) :: xs.drop (s + 1) from (List.drop_eq_getElem_cons (by omega)), show ys.drop s = ys[s]'(by omega) :: ys.drop (s + 1) from (List.drop_eq_getElem_cons (by omega))]
    by_cases h : xs[s]'(by omega) = ys[s]'(by omega)
    · simp only [h, beq_self_eq_true, Bool.not_true, Bool.false_eq_true, if_false, Sem.run_pure, Result.andThen_ok, List.cons_beq_cons, Bool.true_and]
      exact hih
    · have hb : (xs[s]'(by omega) == ys[s]'(by omega)) = false := by simpa using h
      simp only [hb, Bool.not_false, if_true, Sem.run_pure, Result.andThen_ok, List.cons_beq_cons, Bool.false_and]
      rfl
theorem eq_arr {P : Program} (w : World) (d : Nat) (t e : TypeId) (n : Nat) (k : IntKind) (xs ys : List Int) (ht : P.underlying t = some (.array n e)) (he : P.underlying e = some (.int k)) (hpk : P.plainKey e = true) {i : TypeInfo} (hi : P.info? e = some i) (hs : i.size = 1)
   (hx : xs.length = n) (hy : ys.length = n) : (Op.equalIn (d + 2) t (.agg (xs.map (Value.int k)).toArray) (.agg (ys.map (Value.int k)).toArray)).run P w = .ok (xs == ys) w := by
  have hl := eq_loop w d e k xs ys he hpk (hx.trans hy.symm) n 0 (by omega)
  unfold Op.equalIn
  simp only [Sem.run_bind, run_underlying ht, Result.andThen_ok]
  simp only [sizeOf, typeInfo, Sem.run_bind, run_program, Result.andThen_ok, hi, Sem.run_pure, hs]
  simp only [Std.Legacy.Range.forIn_eq_forIn_range']
  have hsz : ([:n] : Std.Legacy.Range).size = n := by simp [Std.Legacy.Range.size]
  have e0 : ([:n] : Std.Legacy.Range).start = 0 := rfl
  have e1 : ([:n] : Std.Legacy.Range).step = 1 := rfl
  rw [hsz]
  erw [hl]
  simp only [Result.andThen_ok, List.drop_zero]
  by_cases h : xs = ys
  · simp [h]
  · have hb : (xs == ys) = false := by simpa using h
    simp [hb]

/-- Two lists of numbers, held against each other: behind a name, so that no walk opens it. -/
def eqL (xs ys : List Int) : Bool := xs == ys
theorem eqL_iff {xs ys : List Int} : eqL xs ys = true ↔ xs = ys := by unfold eqL; exact beq_iff_eq
theorem eqL_refl (xs : List Int) : eqL xs xs = true := eqL_iff.2 rfl
theorem run_eql_arr {P : Program} (w : World) (t e : TypeId) (n : Nat) (k : IntKind) (xs ys : List Int) (ht : P.underlying t = some (.array n e)) (he : P.underlying e = some (.int k)) (hpk : P.plainKey e = true) {i : TypeInfo} (hi : P.info? e = some i) (hs : i.size = 1)
   (hx : xs.length = n) (hy : ys.length = n) : (binOp .eql t (.agg (xs.map (Value.int k)).toArray) (.agg (ys.map (Value.int k)).toArray)).run P w = .ok (.bool (eqL xs ys)) w := by
  rw [run_eql_struct, eq_arr w 9998 t e n k xs ys ht he hpk hi hs hx hy]
  rfl
theorem run_neq_arr {P : Program} (w : World) (t e : TypeId) (n : Nat) (k : IntKind) (xs ys : List Int) (ht : P.underlying t = some (.array n e)) (he : P.underlying e = some (.int k)) (hpk : P.plainKey e = true) {i : TypeInfo} (hi : P.info? e = some i) (hs : i.size = 1)
   (hx : xs.length = n) (hy : ys.length = n) : (binOp .neq t (.agg (xs.map (Value.int k)).toArray) (.agg (ys.map (Value.int k)).toArray)).run P w = .ok (.bool (!eqL xs ys)) w := by
  rw [run_neq_struct, eq_arr w 9998 t e n k xs ys ht he hpk hi hs hx hy]
  rfl
theorem below_wdrew {N : Nat} {w wr W : World} (h : Below N w wr) (hW : W = wr.drew) : Below N w W := by subst hW; exact h.drew
theorem below_call {N : Nat} {w W w1 : World} (h : Below N w W) (hN : N ≤ W.heap.size) (hb : Below W.heap.size W w1) : Below N w w1 := h.trans (hb.mono hN)

end Go.Proofs.Ytkoackalpcmhaaa
