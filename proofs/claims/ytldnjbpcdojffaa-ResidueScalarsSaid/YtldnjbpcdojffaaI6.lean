/- @@NUM 25 Bytes as strings; Of at a row that has not 32 bytes. Conditions: none. -/
import Derived.Test.YtldnjbpcdojffaaI5
import Derived.Test.YtldnjbpcdojffaaR30
import Derived.Laws.BytesArg
namespace Go.Proofs.Ytldnjbpcdojffaa
set_option linter.unusedVariables false
set_option linter.unusedSimpArgs false
open Go Go.RowKit
open Pl (V W4 T256)

def strOf (zs : List Nat) : ByteArray := strOfNums (zs.map fun (z : Nat) => (z : Int))
theorem bts_string {n : Nat} {w : World} {sv : Value} {zs : List Nat} (h : Bts n w sv zs) : (convert 22 9 sv).run Try.prog w = .ok (.string (strOf zs)) w := by
  rcases h with ⟨rfl, rfl⟩ | ⟨x, cap, rfl, hb, hc⟩
  · rw [run_convert_bytes_nil w 22 5 Try.underlying22 Try.underlying5 0 0 9 Try.underlying9]
    rfl
  · have hl : (loadCells x zs.length).run Try.prog w = .ok ((zs.map fun (z : Nat) => (z : Int)).map (Value.int .u8)).toArray w := by
      have := run_loadCells_list (P := Try.prog) w x ((zs.map fun (z : Nat) => (z : Int)).map (Value.int .u8)) (fun j v hj => by
        have hjl : j < zs.length := by
          rcases Nat.lt_or_ge j zs.length with h | h
          · exact h
          · rw [List.getElem?_eq_none (by simpa using h)] at hj; cases hj
        rw [hc j hjl]
        rw [List.getElem?_map, List.getElem?_map, List.getElem?_eq_getElem hjl] at hj
        rw [List.getElem?_eq_getElem hjl, Option.getD_some]
        simpa using hj)
      simpa using this
    rw [run_convert_bytes_string w 22 9 5 _ _ cap Try.underlying22 Try.underlying5 Try.underlying9, run_bytesToString w x _ cap _ hl, foldl_push_bytes]
    simp [strOf, strOfNums, ByteArray.empty, ByteArray.emptyWithCapacity]
    rfl
theorem conv_exec {n : Nat} {o : Oper} {a : Act} {w : World} {s : Tmp} {zs : List Nat} (ho : o.op = .convert 22 9 (.tmp s)) (h : Bts n w (a.eval (.tmp s)) zs) : (execOp a.eval o).run Try.prog w = .ok (.value (.string (strOf zs))) w := by
  have := bts_string h
  simp only [execOp, ho, Sem.run_bind, this, Result.andThen]
  rfl
theorem stable_bts (zs : List Nat) : Rg.Stable (fun w v => Bts w.heap.size w v zs) := fun w w' v hb h => (h.below hb).up hb.size
theorem stable_rdi (zs : List Int) : Rg.Stable (fun w v => RdI w.heap.size w v zs) := fun w w' v hb h => h.next hb

set_option maxHeartbeats 2000000 in
theorem Of_bad (a : Option Addr) (len cap : Nat) (hl : len ≤ 1048576) (hn : len ≠ 32) (w : World) : Calls Try.prog 14 #[.slice a len cap] w fun e w' => e = .returned (.tuple #[.agg #[.int .u64 0, .int .u64 0, .int .u64 0, .int .u64 0], .int .i64 3]) ∧ Below w.heap.size w w' := by
  have h1 : ¬ ((len : Int) = 32) := by omega
  go_enter Try.func14, Try.ntmps14
  go_wp2
  refine bodyPost_ret (v := .tuple #[.agg #[.int .u64 0, .int .u64 0, .int .u64 0, .int .u64 0], .int .i64 3]) (by simp [results, Try.results14, go_sem]) rfl ⟨rfl, ?_⟩
  go_grown

end Go.Proofs.Ytldnjbpcdojffaa
