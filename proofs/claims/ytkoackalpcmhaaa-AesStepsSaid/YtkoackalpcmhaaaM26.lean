/- The abstract machine: loops, and states by other names. Conditions: none. -/
import Derived.Test.YtkoackalpcmhaaaM25
namespace Go.Proofs.Ytkoackalpcmhaaa.Am
set_option linter.unusedVariables false
set_option linter.unusedSimpArgs false
open Go Go.RowKit

/-- The first m names stay; those of es come behind them; only some slots are kept. -/
def nameN (m : Nat) (es : List Nat) (id : Nat) : Nat := match Nat.blt id m with
  | true => id
  | false => m + idx id es
def keepTm (g : SV → SV) (ks : List Nat) : Nat → List (Option SV) → List (Option SV)
  | _, [] => []
  | i, x :: l => (match memB i ks, x with
    | true, some v => some (g v)
    | _, _ => none) :: keepTm g ks (i + 1) l
def hpN (hp : List (Nat × Blk)) (g : Nat → Nat) : List Nat → List (Nat × Blk)
  | [] => []
  | id :: l => match look hp id with
    | some b => (g id, ⟨b.k, b.ty, renL g b.c⟩) :: hpN hp g l
    | none => hpN hp g l
def upTo : Nat → Nat → List Nat
  | _, 0 => []
  | i, n + 1 => i :: upTo (i + 1) n
def normSt (m : Nat) (es ks : List Nat) (s : St) : St :=
  { tm := keepTm (SV.ren (nameN m es)) ks 0 s.tm, hp := hpN s.hp (nameN m es) (upTo 0 m ++ es), nx := m + es.length, gl := s.gl }
def okN (m : Nat) (es : List Nat) (x : Seg) : Bool := x.ids.all fun id => Nat.blt id m || memB id es
def slotsB (p : Seg → Bool) (ks : List Nat) : Nat → List (Option SV) → Bool
  | _, [] => true
  | i, x :: l => (match memB i ks, x with
    | true, some v => v.allB p
    | _, _ => true) && slotsB p ks (i + 1) l
def nodupB : List Nat → Bool
  | [] => true
  | x :: l => !memB x l && nodupB l
def normB (m : Nat) (es ks : List Nat) (s : St) : Bool :=
  slotsB (okN m es) ks 0 s.tm && ((upTo 0 m ++ es).all (fun id => match look s.hp id with
    | some b => b.c.all (okN m es)
    | none => true) && (s.gl.all (fun x => Nat.blt x.2 m) && (nodupB es && es.all fun e => Nat.ble m e)))

theorem mem_upTo {x : Nat} : ∀ {i n : Nat}, x ∈ upTo i n ↔ i ≤ x ∧ x < i + n
  | i, 0 => by simp [upTo]
  | i, n + 1 => by
    simp only [upTo, List.mem_cons, mem_upTo (n := n)]
    omega
theorem nodupB_spec : ∀ {l : List Nat}, nodupB l = true → l.Nodup
  | [], _ => List.nodup_nil
  | x :: l, h => by
    unfold nodupB at h
    rw [Bool.and_eq_true] at h
    refine List.nodup_cons.2 ⟨fun hx => ?_, nodupB_spec h.2⟩
    rw [memB_mem.2 hx] at h
    cases h.1
theorem nth_keep {g : SV → SV} {ks : List Nat} {v : SV} : ∀ (l : List (Option SV)) (i t : Nat), nth (keepTm g ks i l) t = some (some v) → ∃ u, nth l t = some (some u) ∧ v = g u ∧ i + t ∈ ks
  | [], i, t, h => by simp [keepTm, nth] at h
  | x :: l, i, 0, h => by
    simp only [keepTm, nth, Option.some.injEq] at h
    split at h
    · rename_i u hm
      injection h with h
      exact ⟨u, rfl, h.symm, memB_mem.1 hm⟩
    · cases h
  | x :: l, i, t + 1, h => by
    simp only [keepTm, nth] at h
    obtain ⟨u, h1, h2, h3⟩ := nth_keep l (i + 1) t h
    exact ⟨u, h1, h2, by rw [show i + (t + 1) = i + 1 + t by omega]; exact h3⟩
theorem keepTm_len {g : SV → SV} {ks : List Nat} : ∀ (l : List (Option SV)) (i : Nat), (keepTm g ks i l).length = l.length
  | [], _ => rfl
  | x :: l, i => by simp [keepTm, keepTm_len l]
theorem slotsB_spec {p : Seg → Bool} {ks : List Nat} {v : SV} : ∀ (l : List (Option SV)) (i t : Nat), slotsB p ks i l = true → nth l t = some (some v) → i + t ∈ ks → v.allB p = true
  | [], i, t, _, h, _ => by simp [nth] at h
  | x :: l, i, 0, hs, h, hm => by
    simp only [nth, Option.some.injEq] at h
    subst h
    unfold slotsB at hs
    rw [Bool.and_eq_true] at hs
    have h1 := hs.1
    rw [Nat.add_zero] at hm
    rw [memB_mem.2 hm] at h1
    exact h1
  | x :: l, i, t + 1, hs, h, hm => by
    unfold slotsB at hs
    rw [Bool.and_eq_true] at hs
    exact slotsB_spec l (i + 1) t hs.2 h (by rw [show i + 1 + t = i + (t + 1) by omega]; exact hm)
theorem look_hpN {hp : List (Nat × Blk)} {g : Nat → Nat} {i : Nat} {b : Blk} : ∀ (l : List Nat), look (hpN hp g l) i = some b → ∃ id b0, id ∈ l ∧ g id = i ∧ look hp id = some b0 ∧ b = ⟨b0.k, b0.ty, renL g b0.c⟩
  | [], h => by cases h
  | id :: l, h => by
    unfold hpN at h
    split at h
    · rename_i b0 hb0
      rw [look_cons] at h
      by_cases hk : g id = i
      · rw [if_pos hk] at h
        injection h with h
        exact ⟨id, b0, by simp, hk, hb0, h.symm⟩
      · rw [if_neg hk] at h
        obtain ⟨id', b', h1, h2⟩ := look_hpN l h
        exact ⟨id', b', by simp [h1], h2⟩
    · obtain ⟨id', b', h1, h2⟩ := look_hpN l h
      exact ⟨id', b', by simp [h1], h2⟩

/-- Slots, by those that hold something. -/
def tmL (n : Nat) (l : List (Nat × SV)) : List (Option SV) := (upTo 0 n).map (look l)
def loopOf : List AI → Code
  | .code (.loop x) :: _ => x
  | _ => .skip
def restOf : List AI → List AI
  | _ :: k => k
  | [] => []
def todoOf : Option Out → List AI
  | some o => o.todo
  | none => []
section
variable {P : Program} {T : List (Nat × Ty)} {O : List (Nat × Ent)} {B : Exit → Act → World → Prop} {N : Nat} {M : List Nat} {w0 : Wd}

theorem norm_runs {todo : List AI} {s : St} {m : Nat} {es ks : List Nat} (h : normB m es ks s = true) (hm : ∀ id x, w0.lk id = some x → id < m) (hR : Runs P B N M w0 todo (normSt m es ks s)) : Runs P B N M w0 todo s := by
  intro ρ a w hr
  unfold normB at h
  simp only [Bool.and_eq_true, List.all_eq_true] at h
  obtain ⟨h1, h2, h3, h4, h5⟩ := h
  have hnd := nodupB_spec h4
  have hge : ∀ e ∈ es, m ≤ e := fun e he => Nat.le_of_ble_eq_true (h5 e he)
  obtain ⟨ρ', hρ'⟩ : ∃ ρ' : Nat → Loc, (fun i : Nat => if i < m then ρ i else ρ (es.getD (i - m) 0)) = ρ' := ⟨_, rfl⟩
  have hlow : ∀ id, id < m → nameN m es id = id := fun id hid => by
    unfold nameN
    rw [show Nat.blt id m = true from Nat.ble_eq_true_of_le hid]
  have hhigh : ∀ id, id ∈ es → nameN m es id = m + idx id es := fun id hid => by
    unfold nameN
    have : Nat.blt id m = false := by
      rcases hh : Nat.blt id m with _ | _
      · rfl
      · have : id + 1 ≤ m := Nat.le_of_ble_eq_true hh
        have := hge id hid
        omega
    rw [this]
  have hok : ∀ id, (id < m ∨ id ∈ es) → ρ' (nameN m es id) = ρ id ∧ nameN m es id < m + es.length := fun id hid => by
    rw [← hρ']
    rcases hid with hid | hid
    · rw [hlow id hid]
      simp only [if_pos hid]
      exact ⟨trivial, by omega⟩
    · rw [hhigh id hid]
      have := idx_lt hid
      simp only [if_neg (show ¬ m + idx id es < m by omega), Nat.add_sub_cancel_left]
      refine ⟨?_, by omega⟩
      rw [List.getD_eq_getElem?_getD, idx_get hid]
      rfl
  have hinj : ∀ i j, (i < m ∨ i ∈ es) → (j < m ∨ j ∈ es) → nameN m es i = nameN m es j → i = j := fun i j hi hj he => by
    rcases hi with hi | hi <;> rcases hj with hj | hj
    · rw [hlow i hi, hlow j hj] at he; exact he
    · rw [hlow i hi, hhigh j hj] at he; omega
    · rw [hhigh i hi, hlow j hj] at he; omega
    · rw [hhigh i hi, hhigh j hj] at he
      have h1 := idx_get hi
      have h2 := idx_get hj
      rw [show idx i es = idx j es by omega, h2] at h1
      injection h1 with h1
      exact h1.symm
  have hseg : ∀ x : Seg, okN m es x = true → (∀ id, id ∈ x.ids → id < m ∨ id ∈ es) := fun x hx id hid => by
    unfold okN at hx
    have := List.all_eq_true.1 hx id hid
    rw [Bool.or_eq_true] at this
    exact this.imp (fun h => Nat.le_of_ble_eq_true h) memB_mem.1
  have hSame : ∀ x : Seg, okN m es x = true → Same (nameN m es) ρ ρ' x := fun x hx => by
    refine ⟨fun id hid => by rw [(hok id (hseg x hx id hid)).1], fun id o l a he => (hok id (hseg x hx id (by rw [he]; simp [Seg.ids]))).1⟩
  have hblk : ∀ i b, look (hpN s.hp (nameN m es) (upTo 0 m ++ es)) i = some b → ∃ id b0, (id < m ∨ id ∈ es) ∧ nameN m es id = i ∧ look s.hp id = some b0 ∧ b = ⟨b0.k, b0.ty, renL (nameN m es) b0.c⟩ ∧ ∀ x ∈ b0.c, okN m es x = true := fun i b hb => by
    obtain ⟨id, b0, hid, h6, h7, h8⟩ := look_hpN _ hb
    refine ⟨id, b0, ?_, h6, h7, h8, ?_⟩
    · rcases List.mem_append.1 hid with h | h
      · exact .inl (by have := mem_upTo.1 h; omega)
      · exact .inr h
    · have := h2 id hid
      rw [h7] at this
      exact List.all_eq_true.1 this
  refine hR ρ' a w ⟨⟨fun t sv ht => ?_, fun x id hx => ?_, ⟨hr.rel.hr.size, fun i b hb => ?_, fun i b x hb hx => ?_, fun i b x hb hk hx => ?_, fun i j bi bj x y hi hj hij hk hx hy => ?_⟩, hr.rel.kept, hr.rel.defers⟩, ?_⟩
  · unfold St.get normSt at ht
    simp only at ht
    split at ht
    · rename_i v hv
      injection ht with ht
      subst ht
      obtain ⟨u, hu, rfl, hk⟩ := nth_keep _ _ _ hv
      have hs := slotsB_spec _ _ _ h1 hu hk
      have hg : s.get t = some u := by unfold St.get; rw [hu]
      obtain ⟨h6, h7⟩ := hr.rel.slots t u hg
      have hall := SV.allB_all.1 hs
      refine ⟨h6.trans (SV.ren_conc (hall.mono fun x hx => hSame x hx)).symm, SV.ren_in (hall.mono fun x hx id hid => (hok id (hseg x hx id hid)).2)⟩
    · cases ht
  · have hid : id < m := by
      rcases hx with ⟨g, rfl, hg⟩ | hx
      · exact Nat.le_of_ble_eq_true (h3 _ (look_mem _ _ _ hg))
      · exact hm id x hx
    have h6 := (hr.rel.globals x id hx).1
    have h7 := (hok id (.inl hid)).1
    rw [hlow id hid] at h7
    exact ⟨by rw [h7]; exact h6, show id < m + es.length by omega⟩
  · obtain ⟨id, b0, hid, rfl, hb0, rfl, hc⟩ := hblk i b hb
    obtain ⟨h6, h7, h8⟩ := hr.rel.hr.blk id b0 hb0
    refine ⟨(hok id hid).2, renL_in fun x hx j hj => (hok j (hseg x (hc x hx) j hj)).2, ?_⟩
    have e1 := renL_vals fun x hx => hSame x (hc x hx)
    have e2 := (hok id hid).1
    unfold BlkOK at h8 ⊢
    rw [e1, e2]
    exact h8
  · obtain ⟨id, b0, hid, rfl, hb0, rfl, hc⟩ := hblk i b hb
    rw [(hok id hid).1] at hx
    exact hr.rel.hr.lt id b0 x hb0 hx
  · obtain ⟨id, b0, hid, rfl, hb0, rfl, hc⟩ := hblk i b hb
    rw [(hok id hid).1] at hx
    exact hr.rel.hr.own id b0 x hb0 hk hx
  · obtain ⟨id, b0, hid, rfl, hb0, rfl, hc⟩ := hblk i bi hi
    obtain ⟨id', b1, hid', rfl, hb1, rfl, hc'⟩ := hblk j bj hj
    rw [(hok id hid).1] at hx
    rw [(hok id' hid').1] at hy
    exact hr.rel.hr.dist id id' b0 b1 x y hb0 hb1 (fun e => hij (by rw [e])) hk hx hy
  · rw [hr.size]
    exact (keepTm_len _ _).symm

theorem loop_runs {x : Code} {k : List AI} {s : St} (n : Nat) (h : Runs P B N M w0 (.hd n x :: k) s) : Runs P B N M w0 (.code (.loop x) :: k) s :=
  fun ρ a w hr => wp_loop_rounds n (h ρ a w hr)
theorem hd_runs {x : Code} {k : List AI} {s : St} {n : Nat} (h : Runs P B N M w0 (.code x :: .hd n x :: k) s) : Runs P B N M w0 (.hd (n + 1) x :: k) s := by
  intro ρ a w hr
  have := h ρ a w hr
  show x.wp P (Exit.then (Code.rounds P x (Kst P B k) n) (Kst P B k)) a w
  rw [← kst_hd]
  exact this

/-- A run, up to where it stops, and the state there by its new names. -/
def runN (T : List (Nat × Ty)) (O : List (Nat × Ent)) (H : Nat → Nat → Hint) (LH : List (Nat × Nat)) (fuel : Nat) (m : Nat) (es ks : List Nat) (todo : List AI) (s : St) : Option (List AI × St × List Prop) :=
  match arun T O H LH fuel todo s with
  | some o => match normB m es ks o.st with
    | true => some (o.todo, normSt m es ks o.st, o.asm.list [])
    | false => none
  | none => none
theorem runN_runs (hT : TOK P T) (hO : OOK P O) (hmx : P.follows .mixedOrders = true) {H : Nat → Nat → Hint} {LH : List (Nat × Nat)} {fuel m : Nat} {es ks : List Nat} {todo todo' : List AI} {s s' : St} {ps : List Prop} (h : runN T O H LH fuel m es ks todo s = some (todo', s', ps)) (hps : AllP ps) (hm : ∀ id x, w0.lk id = some x → id < m) (hR : Runs P B N M w0 todo' s') : Runs P B N M w0 todo s := by
  unfold runN at h
  split at h
  · rename_i o ho
    split at h
    · rename_i hn
      simp only [Option.some.injEq, Prod.mk.injEq] at h
      obtain ⟨rfl, rfl, rfl⟩ := h
      exact arun_sound hT hO hmx _ _ _ _ ho (Asm.of_list _ _ hps).1 (norm_runs hn hm hR)
    · cases h
  · cases h

theorem Reaches.trans {m0 : Nat} {a b c : List AI} {s t u : St} (h : Reaches P m0 a s b t) (k : Reaches P m0 b t c u) : Reaches P m0 a s c u := fun B N M w0 hl hR => h B N M w0 hl (k B N M w0 hl hR)
theorem Reaches.refl {m0 : Nat} {a : List AI} {s : St} : Reaches P m0 a s a s := fun _ _ _ _ _ h => h
theorem Reaches.loop {m0 : Nat} {x : Code} {k c : List AI} {s u : St} (n : Nat) (h : Reaches P m0 (.hd n x :: k) s c u) : Reaches P m0 (.code (.loop x) :: k) s c u := fun B N M w0 hl hR => loop_runs n (h B N M w0 hl hR)
theorem Reaches.round {m0 : Nat} {x : Code} {k c : List AI} {s u : St} {n : Nat} (h : Reaches P m0 (.code x :: .hd n x :: k) s c u) : Reaches P m0 (.hd (n + 1) x :: k) s c u := fun B N M w0 hl hR => hd_runs (h B N M w0 hl hR)
theorem reach_run (hT : TOK P T) (hO : OOK P O) (hmx : P.follows .mixedOrders = true) {H : Nat → Nat → Hint} {LH : List (Nat × Nat)} {fuel m0 m : Nat} {es ks : List Nat} {todo todo' : List AI} {s s' : St} {ps : List Prop} (h : runN T O H LH fuel m es ks todo s = some (todo', s', ps)) (hps : AllP ps) (hm : Nat.ble m0 m = true) : Reaches P m0 todo s todo' s' :=
  fun _ _ _ _ hl hR => runN_runs hT hO hmx h hps (fun id x hx => Nat.lt_of_lt_of_le (hl id x hx) (Nat.le_of_ble_eq_true hm)) hR
end
end Go.Proofs.Ytkoackalpcmhaaa.Am
