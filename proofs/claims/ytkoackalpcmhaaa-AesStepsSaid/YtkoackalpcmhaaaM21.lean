/- The abstract machine: contracts out of runs. Conditions: none. -/
import Derived.Test.YtkoackalpcmhaaaM20
namespace Go.Proofs.Ytkoackalpcmhaaa.Am
set_option linter.unusedVariables false
set_option linter.unusedSimpArgs false
open Go Go.RowKit

theorem info_some {P : Program} {t : TypeId} {n : Nat} (h : (P.info? t).map (fun i => i.size) = some n) : ∃ i, P.info? t = some i ∧ i.size = n := by
  rw [Option.map_eq_some_iff] at h
  exact h
theorem info_of {P : Program} {t : TypeId} {size bytes : Nat} {z : Value} (h : (P.info? t).map (fun i => (i.size, i.bytes, i.zero)) = some (size, bytes, some z)) : ∃ i, P.info? t = some i ∧ i.size = size ∧ i.bytes = bytes ∧ i.zero = some z := by
  rw [Option.map_eq_some_iff] at h
  obtain ⟨i, hi, he⟩ := h
  simp only [Prod.mk.injEq] at he
  exact ⟨i, hi, he.1, he.2.1, he.2.2⟩
def stView (P : Program) (t : TypeId) : Option (List (Nat × TypeId) × Option (List (Nat × Nat))) :=
  match P.underlying t with
  | some (.struct fs) => some (fs.toList.map (fun f => (f.offset, f.type)), fs.toList.mapM (fun f => (P.info? f.type).map fun i => (f.offset, i.size)))
  | _ => none
theorem st_of {P : Program} {t : TypeId} {l : List (Nat × TypeId)} {pls : List (Nat × Nat)} (h : stView P t = some (l, some pls)) : UOK P t (.st l) := by
  unfold stView at h
  split at h
  · rename_i fs hu
    simp only [Option.some.injEq, Prod.mk.injEq] at h
    exact ⟨fs, hu, h.1.symm, pls, h.2⟩
  · cases h
def TyAll (P : Program) : List (Nat × Ty) → Prop
  | [] => True
  | x :: l => TyOK P x.1 x.2 ∧ TyAll P l
theorem tok_of {P : Program} : ∀ {l : List (Nat × Ty)}, TyAll P l → TOK P l
  | [], _ => fun t ty h => by cases h
  | (k, x) :: l, h => fun t ty ht => by
    rw [look_cons] at ht
    by_cases hk : k = t
    · rw [if_pos hk] at ht
      injection ht with ht
      subst hk ht
      exact h.1
    · rw [if_neg hk] at ht
      exact tok_of h.2 t ty ht
def EntAll (P : Program) : List (Nat × Ent) → Prop
  | [] => True
  | x :: l => EntOK P x.1 x.2 ∧ EntAll P l
theorem ook_of {P : Program} : ∀ {l : List (Nat × Ent)}, EntAll P l → OOK P l
  | [], _ => fun t ty h => by cases h
  | (k, x) :: l, h => fun t ty ht => by
    rw [look_cons] at ht
    by_cases hk : k = t
    · rw [if_pos hk] at ht
      injection ht with ht
      subst hk ht
      exact h.1
    · rw [if_neg hk] at ht
      exact ook_of h.2 t ty ht

section
variable {P : Program} {T : List (Nat × Ty)} {O : List (Nat × Ent)}

/-- The state at a function's beginning. -/
def start (avs : List SV) (n : Nat) (hp : List (Nat × Blk)) (nx : Nat) (gl : List (Nat × Nat)) : St :=
  { tm := avs.map some ++ List.replicate (n - avs.length) none, hp, nx, gl }
theorem nth_get? {α : Type} : ∀ (l : List α) (n : Nat), nth l n = l[n]?
  | [], _ => by simp [nth]
  | _ :: _, 0 => rfl
  | _ :: l, n + 1 => by rw [nth, nth_get? l n]; rfl
theorem rel_start {ρ : Nat → Loc} {M : List Nat} {w : World} {avs : List SV} {n nx : Nat} {hp : List (Nat × Blk)} {gl : List (Nat × Nat)} (hin : ∀ s ∈ avs, s.In (· < nx)) (hlen : avs.length ≤ n) (hG : HR ρ (· < nx) w.heap.size M (look hp) w) {lk : Nat → Option Addr} (hgl : ∀ x id, LkOK gl lk x id → (ρ id).a = some x ∧ id < nx) :
    RelS ρ w.heap.size M ⟨w, lk⟩ (start avs n hp nx gl) { tmps := (avs.map (SV.conc ρ)).toArray ++ Array.replicate (n - (avs.map (SV.conc ρ)).toArray.size) undef, defers := [] } w := by
  refine ⟨⟨fun t sv ht => ?_, hgl, hG, Kept.refl _ _ _, rfl⟩, by simp [start]⟩
  unfold St.get start at ht
  simp only [nth_get?] at ht
  split at ht
  · rename_i v hv
    simp only [Option.some.injEq] at ht
    subst ht
    rw [List.getElem?_append] at hv
    split at hv
    · rename_i hl
      rw [List.getElem?_map, Option.map_eq_some_iff] at hv
      obtain ⟨x, hx, he⟩ := hv
      injection he with he
      subst he
      refine ⟨?_, hin x (List.mem_of_getElem? hx)⟩
      have hl' : t < avs.length := by simpa using hl
      simp only [Act.eval, Array.getD_eq_getD_getElem?]
      rw [Array.getElem?_append_left (by simpa using hl')]
      simp [hx]
    · rw [List.getElem?_replicate] at hv
      split at hv
      · cases hv
      · cases hv
  · cases ht
/-- A call, out of a run from its function's beginning. -/
theorem calls_am {f : FuncId} {fn : Func} {c : Code} (hf : P.funcs[f]? = some fn) (hb : fn.body = some c) {ρ : Nat → Loc} {M : List Nat} {w : World} {avs : List SV} {nx : Nat} {hp : List (Nat × Blk)} {gl : List (Nat × Nat)} {args : Array Value} (hargs : args = (avs.map (SV.conc ρ)).toArray) (hin : ∀ s ∈ avs, s.In (· < nx)) (hlen : avs.length ≤ fn.ntmps) (hG : HR ρ (· < nx) w.heap.size M (look hp) w) {lk : Nat → Option Addr} (hgl : ∀ x id, LkOK gl lk x id → (ρ id).a = some x ∧ id < nx) {R : Ending → World → Prop}
    (h : Runs P (bodyPost P fn R) w.heap.size M ⟨w, lk⟩ [.code c] (start avs fn.ntmps hp nx gl)) : Calls P f args w R := by
  refine calls_of_wp hf hb ?_
  subst hargs
  exact h ρ _ w (rel_start hin hlen hG hgl)
/-- The end of a run. -/
theorem runs_end (hT : TOK P T) {fn : Func} {R : Ending → World → Prop} {N : Nat} {M : List Nat} {w0 : Wd} {todo : List AI} {s : St} {v : SV} (ht : todo = [] ∨ todo = [.fin]) (hv : resVal T s fn.results.toList = some v) (hR : ∀ ρ a w, RelS ρ N M w0 s a w → R (.returned (v.conc ρ)) w) : Runs P (bodyPost P fn R) N M w0 todo s := by
  intro ρ a w h
  have h1 := resVal_spec (P := P) hT h hv
  rcases ht with rfl | rfl
  · exact ⟨h.rel.defers, _, h1, hR ρ a w h⟩
  · exact ⟨h.rel.defers, _, h1, hR ρ a w h⟩
/-- A run whose every step the machine makes. -/
def whole (T : List (Nat × Ty)) (O : List (Nat × Ent)) (H : Nat → Nat → Hint) (LH : List (Nat × Nat)) (fuel : Nat) (rs : List ResultVar) (todo : List AI) (s : St) : Option (SV × St × Asm) :=
  match arun T O H LH fuel todo s with
  | some o => match o.todo with
    | [] => match resVal T o.st rs with
      | some v => some (v, o.st, o.asm)
      | none => none
    | [.fin] => match resVal T o.st rs with
      | some v => some (v, o.st, o.asm)
      | none => none
    | _ => none
  | none => none
theorem whole_runs (hT : TOK P T) (hO : OOK P O) (hm : P.follows .mixedOrders = true) {H : Nat → Nat → Hint} {LH : List (Nat × Nat)} {fuel : Nat} {fn : Func} {R : Ending → World → Prop} {N : Nat} {M : List Nat} {w0 : Wd} {todo : List AI} {s : St} {v : SV} {st : St} {p : Asm} (h : whole T O H LH fuel fn.results.toList todo s = some (v, st, p)) (hp' : p.holds)
    (hR : ∀ ρ w, HR ρ (· < st.nx) N M (look st.hp) w → Kept N M w0.w w → (∀ id x, w0.lk id = some x → (ρ id).a = some x) → R (.returned (v.conc ρ)) w) : Runs P (bodyPost P fn R) N M w0 todo s := by
  unfold whole at h
  split at h
  · rename_i o ho
    split at h
    · rename_i ht
      split at h
      · rename_i v' hv
        simp only [Option.some.injEq, Prod.mk.injEq] at h
        obtain ⟨rfl, rfl, rfl⟩ := h
        exact arun_sound hT hO hm _ _ _ _ ho hp' (runs_end hT (.inl ht) hv fun ρ a w h => hR ρ w h.rel.hr h.rel.kept (fun id x hx => (h.rel.globals x id (.inr hx)).1))
      · cases h
    · rename_i ht
      split at h
      · rename_i v' hv
        simp only [Option.some.injEq, Prod.mk.injEq] at h
        obtain ⟨rfl, rfl, rfl⟩ := h
        exact arun_sound hT hO hm _ _ _ _ ho hp' (runs_end hT (.inr ht) hv fun ρ a w h => hR ρ w h.rel.hr h.rel.kept (fun id x hx => (h.rel.globals x id (.inr hx)).1))
      · cases h
    · cases h
  · cases h

/-- What a whole run hands back, and what it leans on. -/
def wholeV (T : List (Nat × Ty)) (O : List (Nat × Ent)) (H : Nat → Nat → Hint) (LH : List (Nat × Nat)) (fuel : Nat) (fn : Func) (avs : List SV) : Option (SV × List Prop) :=
  match fn.body with
  | some c => match whole T O H LH fuel fn.results.toList [.code c] (start avs fn.ntmps [] 0 []) with
    | some (v, _, p) => some (v, p.list [])
    | none => none
  | none => none
/-- A function of values to a value. -/
theorem am_val (hT : TOK P T) (hO : OOK P O) (hm : P.follows .mixedOrders = true) {H : Nat → Nat → Hint} {LH : List (Nat × Nat)} {fuel : Nat} {f : FuncId} {fn : Func} (hf : P.funcs[f]? = some fn) {avs : List SV} (hlen : Nat.ble avs.length fn.ntmps = true) {v : SV} {ps : List Prop} (h : wholeV T O H LH fuel fn avs = some (v, ps)) (hps : AllP ps) (hin : avs.all (svB fun _ => false) = true) (hv : svB (fun _ => false) v = true) (ρ : Nat → Loc) (w : World) :
    Calls P f (avs.map (SV.conc ρ)).toArray w fun e w' => e = .returned (v.conc ρ) ∧ Below w.heap.size w w' := by
  unfold wholeV at h
  split at h
  · rename_i c hb
    split at h
    · rename_i v' hp p hw
      simp only [Option.some.injEq, Prod.mk.injEq] at h
      obtain ⟨rfl, rfl⟩ := h
      have hav : ∀ s ∈ avs, s.In (fun _ => False) := fun s hs => svB_in (f := fun _ => false) (fun _ h => by cases h) (List.all_eq_true.1 hin s hs)
      refine calls_am hf hb (ρ := ρ) (M := []) (nx := 0) (hp := []) (gl := []) rfl (fun s hs => (hav s hs).mono fun _ h => h.elim) (Nat.le_of_ble_eq_true hlen) ⟨Nat.le_refl _, fun id b h => (by cases h), fun id b x h => (by cases h), fun id b x h => (by cases h), fun i j bi bj x y h => (by cases h)⟩ (lk := fun _ => none) (fun x id h => by rcases h with ⟨_, _, h⟩ | h <;> cases h) ?_
      refine whole_runs hT hO hm hw (Asm.of_list _ _ hps).1 fun ρ' w' _ hk _ => ⟨?_, hk.below⟩
      rw [SV.conc_congr (D := fun _ => False) (ρ := ρ) (ρ' := ρ') (fun _ h => h.elim) (svB_in (f := fun _ => false) (fun _ h => by cases h) hv)]
    · cases h
  · cases h
/-- A contract of a function that gives a value and leaves old memory alone, as the machine takes it. -/
theorem ent_val {f : FuncId} {args : Array Value} {w : World} {v : Value} (h : Calls P f args w fun e w' => e = .returned v ∧ Below w.heap.size w w') {ρ : Nat → Loc} {D : Nat → Prop} {N : Nat} {M : List Nat} {G : Nat → Option Blk} {base : Nat} {r : Res} (hG : HR ρ D N M G w) (hv : v = r.val.conc ρ) (hn : r.new = []) (hu : r.upd = []) :
    Calls P f args w fun e w' => ∃ v, e = .returned v ∧ ∃ ρ', Fits ρ D N M G base r w ρ' v w' := by
  refine h.mono fun e w' ⟨he, hb⟩ => ⟨v, he, ρ, fun _ _ => rfl, hv, ?_, Kept.of_below (hb.mono hG.size), fun _ => ⟨hb, fun k b x hk => by rw [hn] at hk; cases hk⟩⟩
  have : appl G base r = G := by
    funext id
    unfold appl
    rw [hu, hn]
    simp only [look, List.length_nil]
    rw [if_neg (by omega)]
  rw [this]
  exact hG.step (U := fun _ => False) (fun _ _ => rfl) (fun id h => .inl h) hb.size (fun _ _ h _ => h) (fun id b x hb' _ hx => hb.block _ (hG.lt id b x hb' hx)) (fun _ _ _ h => h.elim) (fun _ _ _ _ h => h.elim) (fun _ _ _ _ h => h.elim) (fun _ _ _ _ _ _ _ _ _ h => (h.elim id id).elim)
end
end Go.Proofs.Ytkoackalpcmhaaa.Am
