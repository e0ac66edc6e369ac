/- The machine's table of types, printed out of the seat's dump by a program (types.py). Conditions: none. -/
import Derived.Test.YtkoackalpcmhaaaZ4
import Derived.Test.YtkoackalpcmhaaaChecked
import Derived.KernelRfl
set_option linter.unusedSectionVars false
namespace Go.Proofs.Ytkoackalpcmhaaa.Am
open Go Go.RowKit
theorem ty2 : TyOK Go.Proofs.Try.prog 2 ⟨1, 8, .one (.v (.int .i64 0)), .int .i64, none⟩ := by
  refine ⟨info_of (by kernel_rfl : (Go.Proofs.Try.prog.info? 2).map (fun i => (i.size, i.bytes, i.zero)) = some (1, 8, some (AV.conc noLoc (.one (.v (.int .i64 0)))))), ?_, by kernel_rfl, by kernel_rfl, (by kernel_rfl : Go.Proofs.Try.prog.underlying 2 = some (.int .i64)), fun k hk => by simp at hk⟩
  exact segsB_in (f := fun _ => false) (fun _ h => by cases h) (by kernel_rfl)
theorem ty3 : TyOK Go.Proofs.Try.prog 3 ⟨1, 8, .one (.v (.int .i64 0)), .int .i64, none⟩ := by
  refine ⟨info_of (by kernel_rfl : (Go.Proofs.Try.prog.info? 3).map (fun i => (i.size, i.bytes, i.zero)) = some (1, 8, some (AV.conc noLoc (.one (.v (.int .i64 0)))))), ?_, by kernel_rfl, by kernel_rfl, (by kernel_rfl : Go.Proofs.Try.prog.underlying 3 = some (.int .i64)), fun k hk => by simp at hk⟩
  exact segsB_in (f := fun _ => false) (fun _ h => by cases h) (by kernel_rfl)
theorem ty4 : TyOK Go.Proofs.Try.prog 4 ⟨1, 1, .one (.v (.bool false)), .bool, none⟩ := by
  refine ⟨info_of (by kernel_rfl : (Go.Proofs.Try.prog.info? 4).map (fun i => (i.size, i.bytes, i.zero)) = some (1, 1, some (AV.conc noLoc (.one (.v (.bool false)))))), ?_, by kernel_rfl, by kernel_rfl, (by kernel_rfl : Go.Proofs.Try.prog.underlying 4 = some (.bool)), fun k hk => by simp at hk⟩
  exact segsB_in (f := fun _ => false) (fun _ h => by cases h) (by kernel_rfl)
theorem ty5 : TyOK Go.Proofs.Try.prog 5 ⟨1, 1, .one (.v (.int .u8 0)), .int .u8, none⟩ := by
  refine ⟨info_of (by kernel_rfl : (Go.Proofs.Try.prog.info? 5).map (fun i => (i.size, i.bytes, i.zero)) = some (1, 1, some (AV.conc noLoc (.one (.v (.int .u8 0)))))), ?_, by kernel_rfl, by kernel_rfl, (by kernel_rfl : Go.Proofs.Try.prog.underlying 5 = some (.int .u8)), fun k hk => by simp at hk⟩
  exact segsB_in (f := fun _ => false) (fun _ h => by cases h) (by kernel_rfl)
theorem ty9 : TyOK Go.Proofs.Try.prog 9 ⟨1, 16, .one (.v (.string .empty)), .str, none⟩ := by
  refine ⟨info_of (by kernel_rfl : (Go.Proofs.Try.prog.info? 9).map (fun i => (i.size, i.bytes, i.zero)) = some (1, 16, some (AV.conc noLoc (.one (.v (.string .empty)))))), ?_, by kernel_rfl, by kernel_rfl, (by kernel_rfl : Go.Proofs.Try.prog.underlying 9 = some (.string)), fun k hk => by simp at hk⟩
  exact segsB_in (f := fun _ => false) (fun _ h => by cases h) (by kernel_rfl)
theorem ty12 : TyOK Go.Proofs.Try.prog 12 ⟨1, 8, .one (.v (.int .u64 0)), .int .u64, none⟩ := by
  refine ⟨info_of (by kernel_rfl : (Go.Proofs.Try.prog.info? 12).map (fun i => (i.size, i.bytes, i.zero)) = some (1, 8, some (AV.conc noLoc (.one (.v (.int .u64 0)))))), ?_, by kernel_rfl, by kernel_rfl, (by kernel_rfl : Go.Proofs.Try.prog.underlying 12 = some (.int .u64)), fun k hk => by simp at hk⟩
  exact segsB_in (f := fun _ => false) (fun _ h => by cases h) (by kernel_rfl)
theorem ty13 : TyOK Go.Proofs.Try.prog 13 ⟨2, 24, .agg [.v (.string .empty), .v (.int .u64 0)], .st [(0, 9), (1, 12)], none⟩ := by
  refine ⟨info_of (by kernel_rfl : (Go.Proofs.Try.prog.info? 13).map (fun i => (i.size, i.bytes, i.zero)) = some (2, 24, some (AV.conc noLoc (.agg [.v (.string .empty), .v (.int .u64 0)])))), ?_, by kernel_rfl, by kernel_rfl, st_of (by kernel_rfl : stView Go.Proofs.Try.prog 13 = some ([(0, 9), (1, 12)], some [(0, 1), (1, 1)])), fun k hk => by simp at hk⟩
  exact segsB_in (f := fun _ => false) (fun _ h => by cases h) (by kernel_rfl)
theorem ty21 : TyOK Go.Proofs.Try.prog 21 ⟨1, 4, .one (.v (.int .i32 0)), .int .i32, none⟩ := by
  refine ⟨info_of (by kernel_rfl : (Go.Proofs.Try.prog.info? 21).map (fun i => (i.size, i.bytes, i.zero)) = some (1, 4, some (AV.conc noLoc (.one (.v (.int .i32 0)))))), ?_, by kernel_rfl, by kernel_rfl, (by kernel_rfl : Go.Proofs.Try.prog.underlying 21 = some (.int .i32)), fun k hk => by simp at hk⟩
  exact segsB_in (f := fun _ => false) (fun _ h => by cases h) (by kernel_rfl)
theorem ty22 : TyOK Go.Proofs.Try.prog 22 ⟨1, 24, .one (.v (.slice none 0 0)), .sl 5, none⟩ := by
  refine ⟨info_of (by kernel_rfl : (Go.Proofs.Try.prog.info? 22).map (fun i => (i.size, i.bytes, i.zero)) = some (1, 24, some (AV.conc noLoc (.one (.v (.slice none 0 0)))))), ?_, by kernel_rfl, by kernel_rfl, (by kernel_rfl : Go.Proofs.Try.prog.underlying 22 = some (.slice 5)), fun k hk => by simp at hk⟩
  exact segsB_in (f := fun _ => false) (fun _ h => by cases h) (by kernel_rfl)
theorem ty23 : TyOK Go.Proofs.Try.prog 23 ⟨16, 16, .one (.arr .u8 (List.replicate 16 0)), .arr 16 5, some .u8⟩ := by
  refine ⟨info_of (by kernel_rfl : (Go.Proofs.Try.prog.info? 23).map (fun i => (i.size, i.bytes, i.zero)) = some (16, 16, some (AV.conc noLoc (.one (.arr .u8 (List.replicate 16 0)))))), ?_, by kernel_rfl, by kernel_rfl, (by kernel_rfl : Go.Proofs.Try.prog.underlying 23 = some (.array 16 5)), fun k hk => by simp at hk; subst hk; exact ⟨by kernel_rfl, 16, 5, _, rfl, by kernel_rfl, by kernel_rfl, (info_some (by kernel_rfl : (Go.Proofs.Try.prog.info? 5).map (fun i => i.size) = some 1)).choose_spec⟩⟩
  exact segsB_in (f := fun _ => false) (fun _ h => by cases h) (by kernel_rfl)
theorem ty25 : TyOK Go.Proofs.Try.prog 25 ⟨1, 8, .one (.v (.pointer none)), .ptr 53, none⟩ := by
  refine ⟨info_of (by kernel_rfl : (Go.Proofs.Try.prog.info? 25).map (fun i => (i.size, i.bytes, i.zero)) = some (1, 8, some (AV.conc noLoc (.one (.v (.pointer none)))))), ?_, by kernel_rfl, by kernel_rfl, (by kernel_rfl : Go.Proofs.Try.prog.underlying 25 = some (.pointer 53)), fun k hk => by simp at hk⟩
  exact segsB_in (f := fun _ => false) (fun _ h => by cases h) (by kernel_rfl)
theorem ty26 : TyOK Go.Proofs.Try.prog 26 ⟨1, 8, .one (.v (.int .i64 0)), .int .i64, none⟩ := by
  refine ⟨info_of (by kernel_rfl : (Go.Proofs.Try.prog.info? 26).map (fun i => (i.size, i.bytes, i.zero)) = some (1, 8, some (AV.conc noLoc (.one (.v (.int .i64 0)))))), ?_, by kernel_rfl, by kernel_rfl, (by kernel_rfl : Go.Proofs.Try.prog.underlying 26 = some (.int .i64)), fun k hk => by simp at hk⟩
  exact segsB_in (f := fun _ => false) (fun _ h => by cases h) (by kernel_rfl)
theorem ty29 : TyOK Go.Proofs.Try.prog 29 ⟨256, 2048, .one (.arr .i64 (List.replicate 256 0)), .arr 256 3, some .i64⟩ := by
  refine ⟨info_of (by kernel_rfl : (Go.Proofs.Try.prog.info? 29).map (fun i => (i.size, i.bytes, i.zero)) = some (256, 2048, some (AV.conc noLoc (.one (.arr .i64 (List.replicate 256 0)))))), ?_, by kernel_rfl, by kernel_rfl, (by kernel_rfl : Go.Proofs.Try.prog.underlying 29 = some (.array 256 3)), fun k hk => by simp at hk; subst hk; exact ⟨by kernel_rfl, 256, 3, _, rfl, by kernel_rfl, by kernel_rfl, (info_some (by kernel_rfl : (Go.Proofs.Try.prog.info? 3).map (fun i => i.size) = some 1)).choose_spec⟩⟩
  exact segsB_in (f := fun _ => false) (fun _ h => by cases h) (by kernel_rfl)
theorem ty33 : TyOK Go.Proofs.Try.prog 33 ⟨1, 24, .one (.v (.slice none 0 0)), .sl 3, none⟩ := by
  refine ⟨info_of (by kernel_rfl : (Go.Proofs.Try.prog.info? 33).map (fun i => (i.size, i.bytes, i.zero)) = some (1, 24, some (AV.conc noLoc (.one (.v (.slice none 0 0)))))), ?_, by kernel_rfl, by kernel_rfl, (by kernel_rfl : Go.Proofs.Try.prog.underlying 33 = some (.slice 3)), fun k hk => by simp at hk⟩
  exact segsB_in (f := fun _ => false) (fun _ h => by cases h) (by kernel_rfl)
theorem ty37 : TyOK Go.Proofs.Try.prog 37 ⟨32, 32, .one (.arr .u8 (List.replicate 32 0)), .arr 32 5, some .u8⟩ := by
  refine ⟨info_of (by kernel_rfl : (Go.Proofs.Try.prog.info? 37).map (fun i => (i.size, i.bytes, i.zero)) = some (32, 32, some (AV.conc noLoc (.one (.arr .u8 (List.replicate 32 0)))))), ?_, by kernel_rfl, by kernel_rfl, (by kernel_rfl : Go.Proofs.Try.prog.underlying 37 = some (.array 32 5)), fun k hk => by simp at hk; subst hk; exact ⟨by kernel_rfl, 32, 5, _, rfl, by kernel_rfl, by kernel_rfl, (info_some (by kernel_rfl : (Go.Proofs.Try.prog.info? 5).map (fun i => i.size) = some 1)).choose_spec⟩⟩
  exact segsB_in (f := fun _ => false) (fun _ h => by cases h) (by kernel_rfl)
theorem ty39 : TyOK Go.Proofs.Try.prog 39 ⟨2, 2, .one (.arr .u8 (List.replicate 2 0)), .arr 2 5, some .u8⟩ := by
  refine ⟨info_of (by kernel_rfl : (Go.Proofs.Try.prog.info? 39).map (fun i => (i.size, i.bytes, i.zero)) = some (2, 2, some (AV.conc noLoc (.one (.arr .u8 (List.replicate 2 0)))))), ?_, by kernel_rfl, by kernel_rfl, (by kernel_rfl : Go.Proofs.Try.prog.underlying 39 = some (.array 2 5)), fun k hk => by simp at hk; subst hk; exact ⟨by kernel_rfl, 2, 5, _, rfl, by kernel_rfl, by kernel_rfl, (info_some (by kernel_rfl : (Go.Proofs.Try.prog.info? 5).map (fun i => i.size) = some 1)).choose_spec⟩⟩
  exact segsB_in (f := fun _ => false) (fun _ h => by cases h) (by kernel_rfl)
theorem ty42 : TyOK Go.Proofs.Try.prog 42 ⟨2, 48, .agg [.v (.slice none 0 0), .v (.slice none 0 0)], .arr 2 22, none⟩ := by
  refine ⟨info_of (by kernel_rfl : (Go.Proofs.Try.prog.info? 42).map (fun i => (i.size, i.bytes, i.zero)) = some (2, 48, some (AV.conc noLoc (.agg [.v (.slice none 0 0), .v (.slice none 0 0)])))), ?_, by kernel_rfl, by kernel_rfl, (by kernel_rfl : Go.Proofs.Try.prog.underlying 42 = some (.array 2 22)), fun k hk => by simp at hk⟩
  exact segsB_in (f := fun _ => false) (fun _ h => by cases h) (by kernel_rfl)
theorem ty47 : TyOK Go.Proofs.Try.prog 47 ⟨1, 8, .one (.v (.pointer none)), .ptr 66, none⟩ := by
  refine ⟨info_of (by kernel_rfl : (Go.Proofs.Try.prog.info? 47).map (fun i => (i.size, i.bytes, i.zero)) = some (1, 8, some (AV.conc noLoc (.one (.v (.pointer none)))))), ?_, by kernel_rfl, by kernel_rfl, (by kernel_rfl : Go.Proofs.Try.prog.underlying 47 = some (.pointer 66)), fun k hk => by simp at hk⟩
  exact segsB_in (f := fun _ => false) (fun _ h => by cases h) (by kernel_rfl)
theorem ty49 : TyOK Go.Proofs.Try.prog 49 ⟨4, 4, .one (.arr .u8 (List.replicate 4 0)), .arr 4 5, some .u8⟩ := by
  refine ⟨info_of (by kernel_rfl : (Go.Proofs.Try.prog.info? 49).map (fun i => (i.size, i.bytes, i.zero)) = some (4, 4, some (AV.conc noLoc (.one (.arr .u8 (List.replicate 4 0)))))), ?_, by kernel_rfl, by kernel_rfl, (by kernel_rfl : Go.Proofs.Try.prog.underlying 49 = some (.array 4 5)), fun k hk => by simp at hk; subst hk; exact ⟨by kernel_rfl, 4, 5, _, rfl, by kernel_rfl, by kernel_rfl, (info_some (by kernel_rfl : (Go.Proofs.Try.prog.info? 5).map (fun i => i.size) = some 1)).choose_spec⟩⟩
  exact segsB_in (f := fun _ => false) (fun _ h => by cases h) (by kernel_rfl)
theorem ty50 : TyOK Go.Proofs.Try.prog 50 ⟨4, 4, .one (.arr .u8 (List.replicate 4 0)), .arr 4 5, some .u8⟩ := by
  refine ⟨info_of (by kernel_rfl : (Go.Proofs.Try.prog.info? 50).map (fun i => (i.size, i.bytes, i.zero)) = some (4, 4, some (AV.conc noLoc (.one (.arr .u8 (List.replicate 4 0)))))), ?_, by kernel_rfl, by kernel_rfl, (by kernel_rfl : Go.Proofs.Try.prog.underlying 50 = some (.array 4 5)), fun k hk => by simp at hk; subst hk; exact ⟨by kernel_rfl, 4, 5, _, rfl, by kernel_rfl, by kernel_rfl, (info_some (by kernel_rfl : (Go.Proofs.Try.prog.info? 5).map (fun i => i.size) = some 1)).choose_spec⟩⟩
  exact segsB_in (f := fun _ => false) (fun _ h => by cases h) (by kernel_rfl)
theorem ty51 : TyOK Go.Proofs.Try.prog 51 ⟨240, 240, .agg [.arr .u8 (List.replicate 4 0), .arr .u8 (List.replicate 4 0), .arr .u8 (List.replicate 4 0), .arr .u8 (List.replicate 4 0), .arr .u8 (List.replicate 4 0), .arr .u8 (List.replicate 4 0), .arr .u8 (List.replicate 4 0), .arr .u8 (List.replicate 4 0), .arr .u8 (List.replicate 4 0), .arr .u8 (List.replicate 4 0), .arr .u8 (List.replicate 4 0), .arr .u8 (List.replicate 4 0), .arr .u8 (List.replicate 4 0), .arr .u8 (List.replicate 4 0), .arr .u8 (List.replicate 4 0), .arr .u8 (List.replicate 4 0), .arr .u8 (List.replicate 4 0), .arr .u8 (List.replicate 4 0), .arr .u8 (List.replicate 4 0), .arr .u8 (List.replicate 4 0), .arr .u8 (List.replicate 4 0), .arr .u8 (List.replicate 4 0), .arr .u8 (List.replicate 4 0), .arr .u8 (List.replicate 4 0), .arr .u8 (List.replicate 4 0), .arr .u8 (List.replicate 4 0), .arr .u8 (List.replicate 4 0), .arr .u8 (List.replicate 4 0), .arr .u8 (List.replicate 4 0), .arr .u8 (List.replicate 4 0), .arr .u8 (List.replicate 4 0), .arr .u8 (List.replicate 4 0), .arr .u8 (List.replicate 4 0), .arr .u8 (List.replicate 4 0), .arr .u8 (List.replicate 4 0), .arr .u8 (List.replicate 4 0), .arr .u8 (List.replicate 4 0), .arr .u8 (List.replicate 4 0), .arr .u8 (List.replicate 4 0), .arr .u8 (List.replicate 4 0), .arr .u8 (List.replicate 4 0), .arr .u8 (List.replicate 4 0), .arr .u8 (List.replicate 4 0), .arr .u8 (List.replicate 4 0), .arr .u8 (List.replicate 4 0), .arr .u8 (List.replicate 4 0), .arr .u8 (List.replicate 4 0), .arr .u8 (List.replicate 4 0), .arr .u8 (List.replicate 4 0), .arr .u8 (List.replicate 4 0), .arr .u8 (List.replicate 4 0), .arr .u8 (List.replicate 4 0), .arr .u8 (List.replicate 4 0), .arr .u8 (List.replicate 4 0), .arr .u8 (List.replicate 4 0), .arr .u8 (List.replicate 4 0), .arr .u8 (List.replicate 4 0), .arr .u8 (List.replicate 4 0), .arr .u8 (List.replicate 4 0), .arr .u8 (List.replicate 4 0)], .arr 60 50, none⟩ := by
  refine ⟨info_of (by kernel_rfl : (Go.Proofs.Try.prog.info? 51).map (fun i => (i.size, i.bytes, i.zero)) = some (240, 240, some (AV.conc noLoc (.agg [.arr .u8 (List.replicate 4 0), .arr .u8 (List.replicate 4 0), .arr .u8 (List.replicate 4 0), .arr .u8 (List.replicate 4 0), .arr .u8 (List.replicate 4 0), .arr .u8 (List.replicate 4 0), .arr .u8 (List.replicate 4 0), .arr .u8 (List.replicate 4 0), .arr .u8 (List.replicate 4 0), .arr .u8 (List.replicate 4 0), .arr .u8 (List.replicate 4 0), .arr .u8 (List.replicate 4 0), .arr .u8 (List.replicate 4 0), .arr .u8 (List.replicate 4 0), .arr .u8 (List.replicate 4 0), .arr .u8 (List.replicate 4 0), .arr .u8 (List.replicate 4 0), .arr .u8 (List.replicate 4 0), .arr .u8 (List.replicate 4 0), .arr .u8 (List.replicate 4 0), .arr .u8 (List.replicate 4 0), .arr .u8 (List.replicate 4 0), .arr .u8 (List.replicate 4 0), .arr .u8 (List.replicate 4 0), .arr .u8 (List.replicate 4 0), .arr .u8 (List.replicate 4 0), .arr .u8 (List.replicate 4 0), .arr .u8 (List.replicate 4 0), .arr .u8 (List.replicate 4 0), .arr .u8 (List.replicate 4 0), .arr .u8 (List.replicate 4 0), .arr .u8 (List.replicate 4 0), .arr .u8 (List.replicate 4 0), .arr .u8 (List.replicate 4 0), .arr .u8 (List.replicate 4 0), .arr .u8 (List.replicate 4 0), .arr .u8 (List.replicate 4 0), .arr .u8 (List.replicate 4 0), .arr .u8 (List.replicate 4 0), .arr .u8 (List.replicate 4 0), .arr .u8 (List.replicate 4 0), .arr .u8 (List.replicate 4 0), .arr .u8 (List.replicate 4 0), .arr .u8 (List.replicate 4 0), .arr .u8 (List.replicate 4 0), .arr .u8 (List.replicate 4 0), .arr .u8 (List.replicate 4 0), .arr .u8 (List.replicate 4 0), .arr .u8 (List.replicate 4 0), .arr .u8 (List.replicate 4 0), .arr .u8 (List.replicate 4 0), .arr .u8 (List.replicate 4 0), .arr .u8 (List.replicate 4 0), .arr .u8 (List.replicate 4 0), .arr .u8 (List.replicate 4 0), .arr .u8 (List.replicate 4 0), .arr .u8 (List.replicate 4 0), .arr .u8 (List.replicate 4 0), .arr .u8 (List.replicate 4 0), .arr .u8 (List.replicate 4 0)])))), ?_, by kernel_rfl, by kernel_rfl, (by kernel_rfl : Go.Proofs.Try.prog.underlying 51 = some (.array 60 50)), fun k hk => by simp at hk⟩
  exact segsB_in (f := fun _ => false) (fun _ h => by cases h) (by kernel_rfl)
theorem ty52 : TyOK Go.Proofs.Try.prog 52 ⟨241, 248, .agg [.v (.pointer none), .arr .u8 (List.replicate 4 0), .arr .u8 (List.replicate 4 0), .arr .u8 (List.replicate 4 0), .arr .u8 (List.replicate 4 0), .arr .u8 (List.replicate 4 0), .arr .u8 (List.replicate 4 0), .arr .u8 (List.replicate 4 0), .arr .u8 (List.replicate 4 0), .arr .u8 (List.replicate 4 0), .arr .u8 (List.replicate 4 0), .arr .u8 (List.replicate 4 0), .arr .u8 (List.replicate 4 0), .arr .u8 (List.replicate 4 0), .arr .u8 (List.replicate 4 0), .arr .u8 (List.replicate 4 0), .arr .u8 (List.replicate 4 0), .arr .u8 (List.replicate 4 0), .arr .u8 (List.replicate 4 0), .arr .u8 (List.replicate 4 0), .arr .u8 (List.replicate 4 0), .arr .u8 (List.replicate 4 0), .arr .u8 (List.replicate 4 0), .arr .u8 (List.replicate 4 0), .arr .u8 (List.replicate 4 0), .arr .u8 (List.replicate 4 0), .arr .u8 (List.replicate 4 0), .arr .u8 (List.replicate 4 0), .arr .u8 (List.replicate 4 0), .arr .u8 (List.replicate 4 0), .arr .u8 (List.replicate 4 0), .arr .u8 (List.replicate 4 0), .arr .u8 (List.replicate 4 0), .arr .u8 (List.replicate 4 0), .arr .u8 (List.replicate 4 0), .arr .u8 (List.replicate 4 0), .arr .u8 (List.replicate 4 0), .arr .u8 (List.replicate 4 0), .arr .u8 (List.replicate 4 0), .arr .u8 (List.replicate 4 0), .arr .u8 (List.replicate 4 0), .arr .u8 (List.replicate 4 0), .arr .u8 (List.replicate 4 0), .arr .u8 (List.replicate 4 0), .arr .u8 (List.replicate 4 0), .arr .u8 (List.replicate 4 0), .arr .u8 (List.replicate 4 0), .arr .u8 (List.replicate 4 0), .arr .u8 (List.replicate 4 0), .arr .u8 (List.replicate 4 0), .arr .u8 (List.replicate 4 0), .arr .u8 (List.replicate 4 0), .arr .u8 (List.replicate 4 0), .arr .u8 (List.replicate 4 0), .arr .u8 (List.replicate 4 0), .arr .u8 (List.replicate 4 0), .arr .u8 (List.replicate 4 0), .arr .u8 (List.replicate 4 0), .arr .u8 (List.replicate 4 0), .arr .u8 (List.replicate 4 0), .arr .u8 (List.replicate 4 0)], .st [(0, 47), (1, 51)], none⟩ := by
  refine ⟨info_of (by kernel_rfl : (Go.Proofs.Try.prog.info? 52).map (fun i => (i.size, i.bytes, i.zero)) = some (241, 248, some (AV.conc noLoc (.agg [.v (.pointer none), .arr .u8 (List.replicate 4 0), .arr .u8 (List.replicate 4 0), .arr .u8 (List.replicate 4 0), .arr .u8 (List.replicate 4 0), .arr .u8 (List.replicate 4 0), .arr .u8 (List.replicate 4 0), .arr .u8 (List.replicate 4 0), .arr .u8 (List.replicate 4 0), .arr .u8 (List.replicate 4 0), .arr .u8 (List.replicate 4 0), .arr .u8 (List.replicate 4 0), .arr .u8 (List.replicate 4 0), .arr .u8 (List.replicate 4 0), .arr .u8 (List.replicate 4 0), .arr .u8 (List.replicate 4 0), .arr .u8 (List.replicate 4 0), .arr .u8 (List.replicate 4 0), .arr .u8 (List.replicate 4 0), .arr .u8 (List.replicate 4 0), .arr .u8 (List.replicate 4 0), .arr .u8 (List.replicate 4 0), .arr .u8 (List.replicate 4 0), .arr .u8 (List.replicate 4 0), .arr .u8 (List.replicate 4 0), .arr .u8 (List.replicate 4 0), .arr .u8 (List.replicate 4 0), .arr .u8 (List.replicate 4 0), .arr .u8 (List.replicate 4 0), .arr .u8 (List.replicate 4 0), .arr .u8 (List.replicate 4 0), .arr .u8 (List.replicate 4 0), .arr .u8 (List.replicate 4 0), .arr .u8 (List.replicate 4 0), .arr .u8 (List.replicate 4 0), .arr .u8 (List.replicate 4 0), .arr .u8 (List.replicate 4 0), .arr .u8 (List.replicate 4 0), .arr .u8 (List.replicate 4 0), .arr .u8 (List.replicate 4 0), .arr .u8 (List.replicate 4 0), .arr .u8 (List.replicate 4 0), .arr .u8 (List.replicate 4 0), .arr .u8 (List.replicate 4 0), .arr .u8 (List.replicate 4 0), .arr .u8 (List.replicate 4 0), .arr .u8 (List.replicate 4 0), .arr .u8 (List.replicate 4 0), .arr .u8 (List.replicate 4 0), .arr .u8 (List.replicate 4 0), .arr .u8 (List.replicate 4 0), .arr .u8 (List.replicate 4 0), .arr .u8 (List.replicate 4 0), .arr .u8 (List.replicate 4 0), .arr .u8 (List.replicate 4 0), .arr .u8 (List.replicate 4 0), .arr .u8 (List.replicate 4 0), .arr .u8 (List.replicate 4 0), .arr .u8 (List.replicate 4 0), .arr .u8 (List.replicate 4 0), .arr .u8 (List.replicate 4 0)])))), ?_, by kernel_rfl, by kernel_rfl, st_of (by kernel_rfl : stView Go.Proofs.Try.prog 52 = some ([(0, 47), (1, 51)], some [(0, 1), (1, 240)])), fun k hk => by simp at hk⟩
  exact segsB_in (f := fun _ => false) (fun _ h => by cases h) (by kernel_rfl)
theorem ty53 : TyOK Go.Proofs.Try.prog 53 ⟨241, 248, .agg [.v (.pointer none), .arr .u8 (List.replicate 4 0), .arr .u8 (List.replicate 4 0), .arr .u8 (List.replicate 4 0), .arr .u8 (List.replicate 4 0), .arr .u8 (List.replicate 4 0), .arr .u8 (List.replicate 4 0), .arr .u8 (List.replicate 4 0), .arr .u8 (List.replicate 4 0), .arr .u8 (List.replicate 4 0), .arr .u8 (List.replicate 4 0), .arr .u8 (List.replicate 4 0), .arr .u8 (List.replicate 4 0), .arr .u8 (List.replicate 4 0), .arr .u8 (List.replicate 4 0), .arr .u8 (List.replicate 4 0), .arr .u8 (List.replicate 4 0), .arr .u8 (List.replicate 4 0), .arr .u8 (List.replicate 4 0), .arr .u8 (List.replicate 4 0), .arr .u8 (List.replicate 4 0), .arr .u8 (List.replicate 4 0), .arr .u8 (List.replicate 4 0), .arr .u8 (List.replicate 4 0), .arr .u8 (List.replicate 4 0), .arr .u8 (List.replicate 4 0), .arr .u8 (List.replicate 4 0), .arr .u8 (List.replicate 4 0), .arr .u8 (List.replicate 4 0), .arr .u8 (List.replicate 4 0), .arr .u8 (List.replicate 4 0), .arr .u8 (List.replicate 4 0), .arr .u8 (List.replicate 4 0), .arr .u8 (List.replicate 4 0), .arr .u8 (List.replicate 4 0), .arr .u8 (List.replicate 4 0), .arr .u8 (List.replicate 4 0), .arr .u8 (List.replicate 4 0), .arr .u8 (List.replicate 4 0), .arr .u8 (List.replicate 4 0), .arr .u8 (List.replicate 4 0), .arr .u8 (List.replicate 4 0), .arr .u8 (List.replicate 4 0), .arr .u8 (List.replicate 4 0), .arr .u8 (List.replicate 4 0), .arr .u8 (List.replicate 4 0), .arr .u8 (List.replicate 4 0), .arr .u8 (List.replicate 4 0), .arr .u8 (List.replicate 4 0), .arr .u8 (List.replicate 4 0), .arr .u8 (List.replicate 4 0), .arr .u8 (List.replicate 4 0), .arr .u8 (List.replicate 4 0), .arr .u8 (List.replicate 4 0), .arr .u8 (List.replicate 4 0), .arr .u8 (List.replicate 4 0), .arr .u8 (List.replicate 4 0), .arr .u8 (List.replicate 4 0), .arr .u8 (List.replicate 4 0), .arr .u8 (List.replicate 4 0), .arr .u8 (List.replicate 4 0)], .st [(0, 47), (1, 51)], none⟩ := by
  refine ⟨info_of (by kernel_rfl : (Go.Proofs.Try.prog.info? 53).map (fun i => (i.size, i.bytes, i.zero)) = some (241, 248, some (AV.conc noLoc (.agg [.v (.pointer none), .arr .u8 (List.replicate 4 0), .arr .u8 (List.replicate 4 0), .arr .u8 (List.replicate 4 0), .arr .u8 (List.replicate 4 0), .arr .u8 (List.replicate 4 0), .arr .u8 (List.replicate 4 0), .arr .u8 (List.replicate 4 0), .arr .u8 (List.replicate 4 0), .arr .u8 (List.replicate 4 0), .arr .u8 (List.replicate 4 0), .arr .u8 (List.replicate 4 0), .arr .u8 (List.replicate 4 0), .arr .u8 (List.replicate 4 0), .arr .u8 (List.replicate 4 0), .arr .u8 (List.replicate 4 0), .arr .u8 (List.replicate 4 0), .arr .u8 (List.replicate 4 0), .arr .u8 (List.replicate 4 0), .arr .u8 (List.replicate 4 0), .arr .u8 (List.replicate 4 0), .arr .u8 (List.replicate 4 0), .arr .u8 (List.replicate 4 0), .arr .u8 (List.replicate 4 0), .arr .u8 (List.replicate 4 0), .arr .u8 (List.replicate 4 0), .arr .u8 (List.replicate 4 0), .arr .u8 (List.replicate 4 0), .arr .u8 (List.replicate 4 0), .arr .u8 (List.replicate 4 0), .arr .u8 (List.replicate 4 0), .arr .u8 (List.replicate 4 0), .arr .u8 (List.replicate 4 0), .arr .u8 (List.replicate 4 0), .arr .u8 (List.replicate 4 0), .arr .u8 (List.replicate 4 0), .arr .u8 (List.replicate 4 0), .arr .u8 (List.replicate 4 0), .arr .u8 (List.replicate 4 0), .arr .u8 (List.replicate 4 0), .arr .u8 (List.replicate 4 0), .arr .u8 (List.replicate 4 0), .arr .u8 (List.replicate 4 0), .arr .u8 (List.replicate 4 0), .arr .u8 (List.replicate 4 0), .arr .u8 (List.replicate 4 0), .arr .u8 (List.replicate 4 0), .arr .u8 (List.replicate 4 0), .arr .u8 (List.replicate 4 0), .arr .u8 (List.replicate 4 0), .arr .u8 (List.replicate 4 0), .arr .u8 (List.replicate 4 0), .arr .u8 (List.replicate 4 0), .arr .u8 (List.replicate 4 0), .arr .u8 (List.replicate 4 0), .arr .u8 (List.replicate 4 0), .arr .u8 (List.replicate 4 0), .arr .u8 (List.replicate 4 0), .arr .u8 (List.replicate 4 0), .arr .u8 (List.replicate 4 0), .arr .u8 (List.replicate 4 0)])))), ?_, by kernel_rfl, by kernel_rfl, st_of (by kernel_rfl : stView Go.Proofs.Try.prog 53 = some ([(0, 47), (1, 51)], some [(0, 1), (1, 240)])), fun k hk => by simp at hk⟩
  exact segsB_in (f := fun _ => false) (fun _ h => by cases h) (by kernel_rfl)
theorem ty58 : TyOK Go.Proofs.Try.prog 58 ⟨16, 16, .agg [.arr .u8 (List.replicate 4 0), .arr .u8 (List.replicate 4 0), .arr .u8 (List.replicate 4 0), .arr .u8 (List.replicate 4 0)], .arr 4 50, none⟩ := by
  refine ⟨info_of (by kernel_rfl : (Go.Proofs.Try.prog.info? 58).map (fun i => (i.size, i.bytes, i.zero)) = some (16, 16, some (AV.conc noLoc (.agg [.arr .u8 (List.replicate 4 0), .arr .u8 (List.replicate 4 0), .arr .u8 (List.replicate 4 0), .arr .u8 (List.replicate 4 0)])))), ?_, by kernel_rfl, by kernel_rfl, (by kernel_rfl : Go.Proofs.Try.prog.underlying 58 = some (.array 4 50)), fun k hk => by simp at hk⟩
  exact segsB_in (f := fun _ => false) (fun _ h => by cases h) (by kernel_rfl)
theorem ty59 : TyOK Go.Proofs.Try.prog 59 ⟨16, 16, .agg [.arr .u8 (List.replicate 4 0), .arr .u8 (List.replicate 4 0), .arr .u8 (List.replicate 4 0), .arr .u8 (List.replicate 4 0)], .arr 4 50, none⟩ := by
  refine ⟨info_of (by kernel_rfl : (Go.Proofs.Try.prog.info? 59).map (fun i => (i.size, i.bytes, i.zero)) = some (16, 16, some (AV.conc noLoc (.agg [.arr .u8 (List.replicate 4 0), .arr .u8 (List.replicate 4 0), .arr .u8 (List.replicate 4 0), .arr .u8 (List.replicate 4 0)])))), ?_, by kernel_rfl, by kernel_rfl, (by kernel_rfl : Go.Proofs.Try.prog.underlying 59 = some (.array 4 50)), fun k hk => by simp at hk⟩
  exact segsB_in (f := fun _ => false) (fun _ h => by cases h) (by kernel_rfl)
theorem ty61 : TyOK Go.Proofs.Try.prog 61 ⟨1, 24, .one (.v (.slice none 0 0)), .sl 50, none⟩ := by
  refine ⟨info_of (by kernel_rfl : (Go.Proofs.Try.prog.info? 61).map (fun i => (i.size, i.bytes, i.zero)) = some (1, 24, some (AV.conc noLoc (.one (.v (.slice none 0 0)))))), ?_, by kernel_rfl, by kernel_rfl, (by kernel_rfl : Go.Proofs.Try.prog.underlying 61 = some (.slice 50)), fun k hk => by simp at hk⟩
  exact segsB_in (f := fun _ => false) (fun _ h => by cases h) (by kernel_rfl)
theorem ty62 : TyOK Go.Proofs.Try.prog 62 ⟨16, 128, .one (.arr .i64 (List.replicate 16 0)), .arr 16 3, some .i64⟩ := by
  refine ⟨info_of (by kernel_rfl : (Go.Proofs.Try.prog.info? 62).map (fun i => (i.size, i.bytes, i.zero)) = some (16, 128, some (AV.conc noLoc (.one (.arr .i64 (List.replicate 16 0)))))), ?_, by kernel_rfl, by kernel_rfl, (by kernel_rfl : Go.Proofs.Try.prog.underlying 62 = some (.array 16 3)), fun k hk => by simp at hk; subst hk; exact ⟨by kernel_rfl, 16, 3, _, rfl, by kernel_rfl, by kernel_rfl, (info_some (by kernel_rfl : (Go.Proofs.Try.prog.info? 3).map (fun i => i.size) = some 1)).choose_spec⟩⟩
  exact segsB_in (f := fun _ => false) (fun _ h => by cases h) (by kernel_rfl)
theorem ty63 : TyOK Go.Proofs.Try.prog 63 ⟨1, 24, .one (.v (.slice none 0 0)), .sl 22, none⟩ := by
  refine ⟨info_of (by kernel_rfl : (Go.Proofs.Try.prog.info? 63).map (fun i => (i.size, i.bytes, i.zero)) = some (1, 24, some (AV.conc noLoc (.one (.v (.slice none 0 0)))))), ?_, by kernel_rfl, by kernel_rfl, (by kernel_rfl : Go.Proofs.Try.prog.underlying 63 = some (.slice 22)), fun k hk => by simp at hk⟩
  exact segsB_in (f := fun _ => false) (fun _ h => by cases h) (by kernel_rfl)
theorem ty65 : TyOK Go.Proofs.Try.prog 65 ⟨256, 256, .one (.arr .u8 (List.replicate 256 0)), .arr 256 5, some .u8⟩ := by
  refine ⟨info_of (by kernel_rfl : (Go.Proofs.Try.prog.info? 65).map (fun i => (i.size, i.bytes, i.zero)) = some (256, 256, some (AV.conc noLoc (.one (.arr .u8 (List.replicate 256 0)))))), ?_, by kernel_rfl, by kernel_rfl, (by kernel_rfl : Go.Proofs.Try.prog.underlying 65 = some (.array 256 5)), fun k hk => by simp at hk; subst hk; exact ⟨by kernel_rfl, 256, 5, _, rfl, by kernel_rfl, by kernel_rfl, (info_some (by kernel_rfl : (Go.Proofs.Try.prog.info? 5).map (fun i => i.size) = some 1)).choose_spec⟩⟩
  exact segsB_in (f := fun _ => false) (fun _ h => by cases h) (by kernel_rfl)
theorem ty66 : TyOK Go.Proofs.Try.prog 66 ⟨256, 256, .one (.arr .u8 (List.replicate 256 0)), .arr 256 5, some .u8⟩ := by
  refine ⟨info_of (by kernel_rfl : (Go.Proofs.Try.prog.info? 66).map (fun i => (i.size, i.bytes, i.zero)) = some (256, 256, some (AV.conc noLoc (.one (.arr .u8 (List.replicate 256 0)))))), ?_, by kernel_rfl, by kernel_rfl, (by kernel_rfl : Go.Proofs.Try.prog.underlying 66 = some (.array 256 5)), fun k hk => by simp at hk; subst hk; exact ⟨by kernel_rfl, 256, 5, _, rfl, by kernel_rfl, by kernel_rfl, (info_some (by kernel_rfl : (Go.Proofs.Try.prog.info? 5).map (fun i => i.size) = some 1)).choose_spec⟩⟩
  exact segsB_in (f := fun _ => false) (fun _ h => by cases h) (by kernel_rfl)
theorem ty67 : TyOK Go.Proofs.Try.prog 67 ⟨1, 8, .one (.v (.int .u64 0)), .int .u64, none⟩ := by
  refine ⟨info_of (by kernel_rfl : (Go.Proofs.Try.prog.info? 67).map (fun i => (i.size, i.bytes, i.zero)) = some (1, 8, some (AV.conc noLoc (.one (.v (.int .u64 0)))))), ?_, by kernel_rfl, by kernel_rfl, (by kernel_rfl : Go.Proofs.Try.prog.underlying 67 = some (.int .u64)), fun k hk => by simp at hk⟩
  exact segsB_in (f := fun _ => false) (fun _ h => by cases h) (by kernel_rfl)
theorem ty69 : TyOK Go.Proofs.Try.prog 69 ⟨1, 8, .one (.v (.pointer none)), .ptr 59, none⟩ := by
  refine ⟨info_of (by kernel_rfl : (Go.Proofs.Try.prog.info? 69).map (fun i => (i.size, i.bytes, i.zero)) = some (1, 8, some (AV.conc noLoc (.one (.v (.pointer none)))))), ?_, by kernel_rfl, by kernel_rfl, (by kernel_rfl : Go.Proofs.Try.prog.underlying 69 = some (.pointer 59)), fun k hk => by simp at hk⟩
  exact segsB_in (f := fun _ => false) (fun _ h => by cases h) (by kernel_rfl)
theorem ty78 : TyOK Go.Proofs.Try.prog 78 ⟨1, 4, .one (.v (.int .u32 0)), .int .u32, none⟩ := by
  refine ⟨info_of (by kernel_rfl : (Go.Proofs.Try.prog.info? 78).map (fun i => (i.size, i.bytes, i.zero)) = some (1, 4, some (AV.conc noLoc (.one (.v (.int .u32 0)))))), ?_, by kernel_rfl, by kernel_rfl, (by kernel_rfl : Go.Proofs.Try.prog.underlying 78 = some (.int .u32)), fun k hk => by simp at hk⟩
  exact segsB_in (f := fun _ => false) (fun _ h => by cases h) (by kernel_rfl)
theorem ty82 : TyOK Go.Proofs.Try.prog 82 ⟨1, 8, .one (.v (.pointer none)), .ptr 5, none⟩ := by
  refine ⟨info_of (by kernel_rfl : (Go.Proofs.Try.prog.info? 82).map (fun i => (i.size, i.bytes, i.zero)) = some (1, 8, some (AV.conc noLoc (.one (.v (.pointer none)))))), ?_, by kernel_rfl, by kernel_rfl, (by kernel_rfl : Go.Proofs.Try.prog.underlying 82 = some (.pointer 5)), fun k hk => by simp at hk⟩
  exact segsB_in (f := fun _ => false) (fun _ h => by cases h) (by kernel_rfl)
def tyT : List (Nat × Ty) := [(2, ⟨1, 8, .one (.v (.int .i64 0)), .int .i64, none⟩), (3, ⟨1, 8, .one (.v (.int .i64 0)), .int .i64, none⟩), (4, ⟨1, 1, .one (.v (.bool false)), .bool, none⟩), (5, ⟨1, 1, .one (.v (.int .u8 0)), .int .u8, none⟩), (9, ⟨1, 16, .one (.v (.string .empty)), .str, none⟩), (12, ⟨1, 8, .one (.v (.int .u64 0)), .int .u64, none⟩), (13, ⟨2, 24, .agg [.v (.string .empty), .v (.int .u64 0)], .st [(0, 9), (1, 12)], none⟩), (21, ⟨1, 4, .one (.v (.int .i32 0)), .int .i32, none⟩), (22, ⟨1, 24, .one (.v (.slice none 0 0)), .sl 5, none⟩), (23, ⟨16, 16, .one (.arr .u8 (List.replicate 16 0)), .arr 16 5, some .u8⟩), (25, ⟨1, 8, .one (.v (.pointer none)), .ptr 53, none⟩), (26, ⟨1, 8, .one (.v (.int .i64 0)), .int .i64, none⟩), (29, ⟨256, 2048, .one (.arr .i64 (List.replicate 256 0)), .arr 256 3, some .i64⟩), (33, ⟨1, 24, .one (.v (.slice none 0 0)), .sl 3, none⟩), (37, ⟨32, 32, .one (.arr .u8 (List.replicate 32 0)), .arr 32 5, some .u8⟩), (39, ⟨2, 2, .one (.arr .u8 (List.replicate 2 0)), .arr 2 5, some .u8⟩), (42, ⟨2, 48, .agg [.v (.slice none 0 0), .v (.slice none 0 0)], .arr 2 22, none⟩), (47, ⟨1, 8, .one (.v (.pointer none)), .ptr 66, none⟩), (49, ⟨4, 4, .one (.arr .u8 (List.replicate 4 0)), .arr 4 5, some .u8⟩), (50, ⟨4, 4, .one (.arr .u8 (List.replicate 4 0)), .arr 4 5, some .u8⟩), (51, ⟨240, 240, .agg [.arr .u8 (List.replicate 4 0), .arr .u8 (List.replicate 4 0), .arr .u8 (List.replicate 4 0), .arr .u8 (List.replicate 4 0), .arr .u8 (List.replicate 4 0), .arr .u8 (List.replicate 4 0), .arr .u8 (List.replicate 4 0), .arr .u8 (List.replicate 4 0), .arr .u8 (List.replicate 4 0), .arr .u8 (List.replicate 4 0), .arr .u8 (List.replicate 4 0), .arr .u8 (List.replicate 4 0), .arr .u8 (List.replicate 4 0), .arr .u8 (List.replicate 4 0), .arr .u8 (List.replicate 4 0), .arr .u8 (List.replicate 4 0), .arr .u8 (List.replicate 4 0), .arr .u8 (List.replicate 4 0), .arr .u8 (List.replicate 4 0), .arr .u8 (List.replicate 4 0), .arr .u8 (List.replicate 4 0), .arr .u8 (List.replicate 4 0), .arr .u8 (List.replicate 4 0), .arr .u8 (List.replicate 4 0), .arr .u8 (List.replicate 4 0), .arr .u8 (List.replicate 4 0), .arr .u8 (List.replicate 4 0), .arr .u8 (List.replicate 4 0), .arr .u8 (List.replicate 4 0), .arr .u8 (List.replicate 4 0), .arr .u8 (List.replicate 4 0), .arr .u8 (List.replicate 4 0), .arr .u8 (List.replicate 4 0), .arr .u8 (List.replicate 4 0), .arr .u8 (List.replicate 4 0), .arr .u8 (List.replicate 4 0), .arr .u8 (List.replicate 4 0), .arr .u8 (List.replicate 4 0), .arr .u8 (List.replicate 4 0), .arr .u8 (List.replicate 4 0), .arr .u8 (List.replicate 4 0), .arr .u8 (List.replicate 4 0), .arr .u8 (List.replicate 4 0), .arr .u8 (List.replicate 4 0), .arr .u8 (List.replicate 4 0), .arr .u8 (List.replicate 4 0), .arr .u8 (List.replicate 4 0), .arr .u8 (List.replicate 4 0), .arr .u8 (List.replicate 4 0), .arr .u8 (List.replicate 4 0), .arr .u8 (List.replicate 4 0), .arr .u8 (List.replicate 4 0), .arr .u8 (List.replicate 4 0), .arr .u8 (List.replicate 4 0), .arr .u8 (List.replicate 4 0), .arr .u8 (List.replicate 4 0), .arr .u8 (List.replicate 4 0), .arr .u8 (List.replicate 4 0), .arr .u8 (List.replicate 4 0), .arr .u8 (List.replicate 4 0)], .arr 60 50, none⟩), (52, ⟨241, 248, .agg [.v (.pointer none), .arr .u8 (List.replicate 4 0), .arr .u8 (List.replicate 4 0), .arr .u8 (List.replicate 4 0), .arr .u8 (List.replicate 4 0), .arr .u8 (List.replicate 4 0), .arr .u8 (List.replicate 4 0), .arr .u8 (List.replicate 4 0), .arr .u8 (List.replicate 4 0), .arr .u8 (List.replicate 4 0), .arr .u8 (List.replicate 4 0), .arr .u8 (List.replicate 4 0), .arr .u8 (List.replicate 4 0), .arr .u8 (List.replicate 4 0), .arr .u8 (List.replicate 4 0), .arr .u8 (List.replicate 4 0), .arr .u8 (List.replicate 4 0), .arr .u8 (List.replicate 4 0), .arr .u8 (List.replicate 4 0), .arr .u8 (List.replicate 4 0), .arr .u8 (List.replicate 4 0), .arr .u8 (List.replicate 4 0), .arr .u8 (List.replicate 4 0), .arr .u8 (List.replicate 4 0), .arr .u8 (List.replicate 4 0), .arr .u8 (List.replicate 4 0), .arr .u8 (List.replicate 4 0), .arr .u8 (List.replicate 4 0), .arr .u8 (List.replicate 4 0), .arr .u8 (List.replicate 4 0), .arr .u8 (List.replicate 4 0), .arr .u8 (List.replicate 4 0), .arr .u8 (List.replicate 4 0), .arr .u8 (List.replicate 4 0), .arr .u8 (List.replicate 4 0), .arr .u8 (List.replicate 4 0), .arr .u8 (List.replicate 4 0), .arr .u8 (List.replicate 4 0), .arr .u8 (List.replicate 4 0), .arr .u8 (List.replicate 4 0), .arr .u8 (List.replicate 4 0), .arr .u8 (List.replicate 4 0), .arr .u8 (List.replicate 4 0), .arr .u8 (List.replicate 4 0), .arr .u8 (List.replicate 4 0), .arr .u8 (List.replicate 4 0), .arr .u8 (List.replicate 4 0), .arr .u8 (List.replicate 4 0), .arr .u8 (List.replicate 4 0), .arr .u8 (List.replicate 4 0), .arr .u8 (List.replicate 4 0), .arr .u8 (List.replicate 4 0), .arr .u8 (List.replicate 4 0), .arr .u8 (List.replicate 4 0), .arr .u8 (List.replicate 4 0), .arr .u8 (List.replicate 4 0), .arr .u8 (List.replicate 4 0), .arr .u8 (List.replicate 4 0), .arr .u8 (List.replicate 4 0), .arr .u8 (List.replicate 4 0), .arr .u8 (List.replicate 4 0)], .st [(0, 47), (1, 51)], none⟩), (53, ⟨241, 248, .agg [.v (.pointer none), .arr .u8 (List.replicate 4 0), .arr .u8 (List.replicate 4 0), .arr .u8 (List.replicate 4 0), .arr .u8 (List.replicate 4 0), .arr .u8 (List.replicate 4 0), .arr .u8 (List.replicate 4 0), .arr .u8 (List.replicate 4 0), .arr .u8 (List.replicate 4 0), .arr .u8 (List.replicate 4 0), .arr .u8 (List.replicate 4 0), .arr .u8 (List.replicate 4 0), .arr .u8 (List.replicate 4 0), .arr .u8 (List.replicate 4 0), .arr .u8 (List.replicate 4 0), .arr .u8 (List.replicate 4 0), .arr .u8 (List.replicate 4 0), .arr .u8 (List.replicate 4 0), .arr .u8 (List.replicate 4 0), .arr .u8 (List.replicate 4 0), .arr .u8 (List.replicate 4 0), .arr .u8 (List.replicate 4 0), .arr .u8 (List.replicate 4 0), .arr .u8 (List.replicate 4 0), .arr .u8 (List.replicate 4 0), .arr .u8 (List.replicate 4 0), .arr .u8 (List.replicate 4 0), .arr .u8 (List.replicate 4 0), .arr .u8 (List.replicate 4 0), .arr .u8 (List.replicate 4 0), .arr .u8 (List.replicate 4 0), .arr .u8 (List.replicate 4 0), .arr .u8 (List.replicate 4 0), .arr .u8 (List.replicate 4 0), .arr .u8 (List.replicate 4 0), .arr .u8 (List.replicate 4 0), .arr .u8 (List.replicate 4 0), .arr .u8 (List.replicate 4 0), .arr .u8 (List.replicate 4 0), .arr .u8 (List.replicate 4 0), .arr .u8 (List.replicate 4 0), .arr .u8 (List.replicate 4 0), .arr .u8 (List.replicate 4 0), .arr .u8 (List.replicate 4 0), .arr .u8 (List.replicate 4 0), .arr .u8 (List.replicate 4 0), .arr .u8 (List.replicate 4 0), .arr .u8 (List.replicate 4 0), .arr .u8 (List.replicate 4 0), .arr .u8 (List.replicate 4 0), .arr .u8 (List.replicate 4 0), .arr .u8 (List.replicate 4 0), .arr .u8 (List.replicate 4 0), .arr .u8 (List.replicate 4 0), .arr .u8 (List.replicate 4 0), .arr .u8 (List.replicate 4 0), .arr .u8 (List.replicate 4 0), .arr .u8 (List.replicate 4 0), .arr .u8 (List.replicate 4 0), .arr .u8 (List.replicate 4 0), .arr .u8 (List.replicate 4 0)], .st [(0, 47), (1, 51)], none⟩), (58, ⟨16, 16, .agg [.arr .u8 (List.replicate 4 0), .arr .u8 (List.replicate 4 0), .arr .u8 (List.replicate 4 0), .arr .u8 (List.replicate 4 0)], .arr 4 50, none⟩), (59, ⟨16, 16, .agg [.arr .u8 (List.replicate 4 0), .arr .u8 (List.replicate 4 0), .arr .u8 (List.replicate 4 0), .arr .u8 (List.replicate 4 0)], .arr 4 50, none⟩), (61, ⟨1, 24, .one (.v (.slice none 0 0)), .sl 50, none⟩), (62, ⟨16, 128, .one (.arr .i64 (List.replicate 16 0)), .arr 16 3, some .i64⟩), (63, ⟨1, 24, .one (.v (.slice none 0 0)), .sl 22, none⟩), (65, ⟨256, 256, .one (.arr .u8 (List.replicate 256 0)), .arr 256 5, some .u8⟩), (66, ⟨256, 256, .one (.arr .u8 (List.replicate 256 0)), .arr 256 5, some .u8⟩), (67, ⟨1, 8, .one (.v (.int .u64 0)), .int .u64, none⟩), (69, ⟨1, 8, .one (.v (.pointer none)), .ptr 59, none⟩), (78, ⟨1, 4, .one (.v (.int .u32 0)), .int .u32, none⟩), (82, ⟨1, 8, .one (.v (.pointer none)), .ptr 5, none⟩)]
theorem tyT_ok : TOK Go.Proofs.Try.prog tyT := tok_of (⟨ty2, ty3, ty4, ty5, ty9, ty12, ty13, ty21, ty22, ty23, ty25, ty26, ty29, ty33, ty37, ty39, ty42, ty47, ty49, ty50, ty51, ty52, ty53, ty58, ty59, ty61, ty62, ty63, ty65, ty66, ty67, ty69, ty78, ty82, trivial⟩)
theorem mixed_ : Go.Proofs.Try.prog.follows .mixedOrders = true := by kernel_rfl
end Go.Proofs.Ytkoackalpcmhaaa.Am
/- The abstract machine: contracts out of other contracts; hints; bytes. Conditions: none. -/
namespace Go.Proofs.Ytkoackalpcmhaaa.Am
set_option linter.unusedVariables false
set_option linter.unusedSimpArgs false
open Go Go.RowKit

/-- A contract that says what another one says. -/
theorem EntOK.of [GT] {P : Program} {f : FuncId} {e e' : Ent} (h : EntOK P f e) (he : ∀ args G base r, e' args G base = some r → r.asm.holds → ∃ r0, e args G base = some r0 ∧ r0.asm.holds ∧ r0.val = r.val ∧ r0.new = r.new ∧ r0.upd = r.upd) : EntOK P f e' := by
  refine ⟨h.1, fun args G base res hr ha ρ D N M w hG hin hfr => ?_⟩
  obtain ⟨r0, h1, h2, h3, h4, h5⟩ := he args G base res hr ha
  refine (h.2 args G base r0 h1 h2 ρ D N M w hG hin (by rw [h4]; exact hfr)).mono fun e w' ⟨v, hv, ρ', hF⟩ => ⟨v, hv, ρ', ?_⟩
  have hap : appl G base r0 = appl G base res := by
    funext id; unfold appl; rw [h4, h5]
  exact ⟨hF.agree, by rw [← h3]; exact hF.val, by rw [← h4, ← hap]; exact hF.hr, hF.kept, by rw [← h4, ← h5]; exact hF.fresh⟩

def noH : Nat → Nat → Hint := fun _ _ => {}
/-- A hint at one place. -/
def atH (r i : Nat) (h : Hint) (H : Nat → Nat → Hint) : Nat → Nat → Hint := fun a b => match Nat.beq a r && Nat.beq b i with
  | true => h
  | false => H a b
def isB (b : Bool) : Hint := { is := some (ofV (.bool b)) }
def symH : Hint := { sym := true }
def e1I (k : IntKind) (F : Int → Int) : Ent := fun args _ _ => match args with
  | [.av (.one (.v (.int j z)))] => match Nat.beq (ik j) (ik k) with
    | true => some { val := ofV (.int k (F z)) }
    | false => none
  | _ => none
theorem ok_e1I [GT] {f : FuncId} {fn : Func} {k : IntKind} {F : Int → Int} (hf : Try.prog.funcs[f]? = some fn) (h2 : (fn.name == "runtime.NumGoroutine") = false) (h3 : fn.body.isSome = true) (h : ∀ (z : Int) (w : World), GWok w.heap.size [] w → Calls Try.prog f #[.int k z] w fun e w' => e = .returned (.int k (F z)) ∧ Below w.heap.size w w') : EntOK Try.prog f (e1I k F) := by
  refine ⟨⟨fn, hf, h2, h3⟩, fun args G base res hr ha ρ D N M w hG hin hfr => ?_⟩
  unfold e1I at hr
  split at hr
  · rename_i j z
    split at hr
    · rename_i hk
      have := ik_inj hk
      subst this
      simp only [Option.some.injEq] at hr
      subst hr
      exact ent_val (h z w hG.gwc) hG rfl rfl rfl
    · cases hr
  · cases hr
/-! bytes, as the program reckons them -/
def bx (a b : Int) : Int := IntKind.u8.wrap (BitVec.ofInt IntKind.u8.bits a ^^^ BitVec.ofInt IntKind.u8.bits b).toNat
def ba (a b : Int) : Int := IntKind.u8.wrap (BitVec.ofInt IntKind.u8.bits a &&& BitVec.ofInt IntKind.u8.bits b).toNat
def bs (a : Int) (n : Nat) : Int := IntKind.u8.wrap (a * 2 ^ min n IntKind.u8.bits)
end Go.Proofs.Ytkoackalpcmhaaa.Am
/- The cipher: twice, the turned bytes, words. Conditions: none. -/
namespace Go.Proofs.Ytkoackalpcmhaaa.Am
set_option linter.unusedVariables false
set_option linter.unusedSimpArgs false
open Go Go.RowKit
variable [GT]

omit [GT] in
def tw (z : Int) : Int := if (ba z 128 != 0) = true then bx (bs z 1) 27 else bs z 1
theorem twice_ent : EntOK Try.prog 24 (e1I .u8 tw) := by
  refine ok_e1I Try.func24 (by kernel_rfl) (by kernel_rfl) fun z w hgw => ?_
  unfold tw
  cases hc : (ba z 128 != 0) with
  | true =>
    exact am_val (avs := [ofV (.int .u8 z)]) (v := ofV (.int .u8 (bx (bs z 1) 27))) tyT_ok (ook_of (l := []) trivial) mixed_ Try.func24 (by kernel_rfl) (H := atH 1 2 (isB true) noH) (LH := []) (fuel := 100) (ps := [∀ ρ : Nat → Loc, (ofV (.bool (ba z 128 != 0))).conc ρ = (ofV (.bool true)).conc ρ]) (by kernel_rfl) ⟨fun ρ => by rw [hc], trivial⟩ (by kernel_rfl) (by kernel_rfl) (fun _ => ⟨none, 0⟩) w hgw
  | false =>
    exact am_val (avs := [ofV (.int .u8 z)]) (v := ofV (.int .u8 (bs z 1))) tyT_ok (ook_of (l := []) trivial) mixed_ Try.func24 (by kernel_rfl) (H := atH 1 2 (isB false) noH) (LH := []) (fuel := 100) (ps := [∀ ρ : Nat → Loc, (ofV (.bool (ba z 128 != 0))).conc ρ = (ofV (.bool false)).conc ρ]) (by kernel_rfl) ⟨fun ρ => by rw [hc], trivial⟩ (by kernel_rfl) (by kernel_rfl) (fun _ => ⟨none, 0⟩) w hgw
end Go.Proofs.Ytkoackalpcmhaaa.Am
/- The abstract machine: loops, and states by other names. Conditions: none. -/
namespace Go.Proofs.Ytkoackalpcmhaaa.Am
set_option linter.unusedVariables false
set_option linter.unusedSimpArgs false
open Go Go.RowKit

/-- The first m names stay; those of es come behind them; only some slots are kept. -/
def nameN (m : Nat) (es : List Nat) (id : Nat) : Nat := match Nat.blt id m with
  | true => id
  | false => m + idx id es
def keepTm (g : SV → SV) (ks : List Nat) : Nat → List (Option SV) → List (Option SV)
  | _, [] => []
  | i, x :: l => (match memB i ks, x with
    | true, some v => some (g v)
    | _, _ => none) :: keepTm g ks (i + 1) l
def hpN (hp : List (Nat × Blk)) (g : Nat → Nat) : List Nat → List (Nat × Blk)
  | [] => []
  | id :: l => match look hp id with
    | some b => (g id, ⟨b.k, b.ty, renL g b.c⟩) :: hpN hp g l
    | none => hpN hp g l
def upTo : Nat → Nat → List Nat
  | _, 0 => []
  | i, n + 1 => i :: upTo (i + 1) n
def normSt (m : Nat) (es ks : List Nat) (s : St) : St :=
  { tm := keepTm (SV.ren (nameN m es)) ks 0 s.tm, hp := hpN s.hp (nameN m es) (upTo 0 m ++ es), nx := m + es.length, gl := s.gl }
def okN (m : Nat) (es : List Nat) (x : Seg) : Bool := x.ids.all fun id => Nat.blt id m || memB id es
def slotsB (p : Seg → Bool) (ks : List Nat) : Nat → List (Option SV) → Bool
  | _, [] => true
  | i, x :: l => (match memB i ks, x with
    | true, some v => v.allB p
    | _, _ => true) && slotsB p ks (i + 1) l
def nodupB : List Nat → Bool
  | [] => true
  | x :: l => !memB x l && nodupB l
def normB (m : Nat) (es ks : List Nat) (s : St) : Bool :=
  slotsB (okN m es) ks 0 s.tm && ((upTo 0 m ++ es).all (fun id => match look s.hp id with
    | some b => b.c.all (okN m es)
    | none => true) && (s.gl.all (fun x => Nat.blt x.2 m) && (nodupB es && es.all fun e => Nat.ble m e)))

theorem mem_upTo {x : Nat} : ∀ {i n : Nat}, x ∈ upTo i n ↔ i ≤ x ∧ x < i + n
  | i, 0 => by simp [upTo]
  | i, n + 1 => by
    simp only [upTo, List.mem_cons, mem_upTo (n := n)]
    omega
theorem nodupB_spec : ∀ {l : List Nat}, nodupB l = true → l.Nodup
  | [], _ => List.nodup_nil
  | x :: l, h => by
    unfold nodupB at h
    rw [Bool.and_eq_true] at h
    refine List.nodup_cons.2 ⟨fun hx => ?_, nodupB_spec h.2⟩
    rw [memB_mem.2 hx] at h
    cases h.1
theorem nth_keep {g : SV → SV} {ks : List Nat} {v : SV} : ∀ (l : List (Option SV)) (i t : Nat), nth (keepTm g ks i l) t = some (some v) → ∃ u, nth l t = some (some u) ∧ v = g u ∧ i + t ∈ ks
  | [], i, t, h => by simp [keepTm, nth] at h
  | x :: l, i, 0, h => by
    simp only [keepTm, nth, Option.some.injEq] at h
    split at h
    · rename_i u hm
      injection h with h
      exact ⟨u, rfl, h.symm, memB_mem.1 hm⟩
    · cases h
  | x :: l, i, t + 1, h => by
    simp only [keepTm, nth] at h
    obtain ⟨u, h1, h2, h3⟩ := nth_keep l (i + 1) t h
    exact ⟨u, h1, h2, by rw [show i + (t + 1) = i + 1 + t by omega]; exact h3⟩
theorem keepTm_len {g : SV → SV} {ks : List Nat} : ∀ (l : List (Option SV)) (i : Nat), (keepTm g ks i l).length = l.length
  | [], _ => rfl
  | x :: l, i => by simp [keepTm, keepTm_len l]
theorem slotsB_spec {p : Seg → Bool} {ks : List Nat} {v : SV} : ∀ (l : List (Option SV)) (i t : Nat), slotsB p ks i l = true → nth l t = some (some v) → i + t ∈ ks → v.allB p = true
  | [], i, t, _, h, _ => by simp [nth] at h
  | x :: l, i, 0, hs, h, hm => by
    simp only [nth, Option.some.injEq] at h
    subst h
    unfold slotsB at hs
    rw [Bool.and_eq_true] at hs
    have h1 := hs.1
    rw [Nat.add_zero] at hm
    rw [memB_mem.2 hm] at h1
    exact h1
  | x :: l, i, t + 1, hs, h, hm => by
    unfold slotsB at hs
    rw [Bool.and_eq_true] at hs
    exact slotsB_spec l (i + 1) t hs.2 h (by rw [show i + 1 + t = i + (t + 1) by omega]; exact hm)
theorem look_hpN {hp : List (Nat × Blk)} {g : Nat → Nat} {i : Nat} {b : Blk} : ∀ (l : List Nat), look (hpN hp g l) i = some b → ∃ id b0, id ∈ l ∧ g id = i ∧ look hp id = some b0 ∧ b = ⟨b0.k, b0.ty, renL g b0.c⟩
  | [], h => by cases h
  | id :: l, h => by
    unfold hpN at h
    split at h
    · rename_i b0 hb0
      rw [look_cons] at h
      by_cases hk : g id = i
      · rw [if_pos hk] at h
        injection h with h
        exact ⟨id, b0, by simp, hk, hb0, h.symm⟩
      · rw [if_neg hk] at h
        obtain ⟨id', b', h1, h2⟩ := look_hpN l h
        exact ⟨id', b', by simp [h1], h2⟩
    · obtain ⟨id', b', h1, h2⟩ := look_hpN l h
      exact ⟨id', b', by simp [h1], h2⟩

/-- Slots, by those that hold something. -/
def tmL (n : Nat) (l : List (Nat × SV)) : List (Option SV) := (upTo 0 n).map (look l)
def loopOf : List AI → Code
  | .code (.loop x) :: _ => x
  | _ => .skip
def restOf : List AI → List AI
  | _ :: k => k
  | [] => []
def todoOf : Option Out → List AI
  | some o => o.todo
  | none => []
section
variable {P : Program} {T : List (Nat × Ty)} {O : List (Nat × Ent)} {B : Exit → Act → World → Prop} {N : Nat} {M : List Nat} {w0 : Wd}
variable [GT]

theorem norm_runs {todo : List AI} {s : St} {m : Nat} {es ks : List Nat} (h : normB m es ks s = true) (hm : ∀ id x, w0.lk id = some x → id < m) (hR : Runs P B N M w0 todo (normSt m es ks s)) : Runs P B N M w0 todo s := by
  intro ρ a w hr
  unfold normB at h
  simp only [Bool.and_eq_true, List.all_eq_true] at h
  obtain ⟨h1, h2, h3, h4, h5⟩ := h
  have hnd := nodupB_spec h4
  have hge : ∀ e ∈ es, m ≤ e := fun e he => Nat.le_of_ble_eq_true (h5 e he)
  obtain ⟨ρ', hρ'⟩ : ∃ ρ' : Nat → Loc, (fun i : Nat => if i < m then ρ i else ρ (es.getD (i - m) 0)) = ρ' := ⟨_, rfl⟩
  have hlow : ∀ id, id < m → nameN m es id = id := fun id hid => by
    unfold nameN
    rw [show Nat.blt id m = true from Nat.ble_eq_true_of_le hid]
  have hhigh : ∀ id, id ∈ es → nameN m es id = m + idx id es := fun id hid => by
    unfold nameN
    have : Nat.blt id m = false := by
      rcases hh : Nat.blt id m with _ | _
      · rfl
      · have : id + 1 ≤ m := Nat.le_of_ble_eq_true hh
        have := hge id hid
        omega
    rw [this]
  have hok : ∀ id, (id < m ∨ id ∈ es) → ρ' (nameN m es id) = ρ id ∧ nameN m es id < m + es.length := fun id hid => by
    rw [← hρ']
    rcases hid with hid | hid
    · rw [hlow id hid]
      simp only [if_pos hid]
      exact ⟨trivial, by omega⟩
    · rw [hhigh id hid]
      have := idx_lt hid
      simp only [if_neg (show ¬ m + idx id es < m by omega), Nat.add_sub_cancel_left]
      refine ⟨?_, by omega⟩
      rw [List.getD_eq_getElem?_getD, idx_get hid]
      rfl
  have hinj : ∀ i j, (i < m ∨ i ∈ es) → (j < m ∨ j ∈ es) → nameN m es i = nameN m es j → i = j := fun i j hi hj he => by
    rcases hi with hi | hi <;> rcases hj with hj | hj
    · rw [hlow i hi, hlow j hj] at he; exact he
    · rw [hlow i hi, hhigh j hj] at he; omega
    · rw [hhigh i hi, hlow j hj] at he; omega
    · rw [hhigh i hi, hhigh j hj] at he
      have h1 := idx_get hi
      have h2 := idx_get hj
      rw [show idx i es = idx j es by omega, h2] at h1
      injection h1 with h1
      exact h1.symm
  have hseg : ∀ x : Seg, okN m es x = true → (∀ id, id ∈ x.ids → id < m ∨ id ∈ es) := fun x hx id hid => by
    unfold okN at hx
    have := List.all_eq_true.1 hx id hid
    rw [Bool.or_eq_true] at this
    exact this.imp (fun h => Nat.le_of_ble_eq_true h) memB_mem.1
  have hSame : ∀ x : Seg, okN m es x = true → Same (nameN m es) ρ ρ' x := fun x hx => by
    refine ⟨fun id hid => by rw [(hok id (hseg x hx id hid)).1], fun id o l a he => (hok id (hseg x hx id (by rw [he]; simp [Seg.ids]))).1⟩
  have hblk : ∀ i b, look (hpN s.hp (nameN m es) (upTo 0 m ++ es)) i = some b → ∃ id b0, (id < m ∨ id ∈ es) ∧ nameN m es id = i ∧ look s.hp id = some b0 ∧ b = ⟨b0.k, b0.ty, renL (nameN m es) b0.c⟩ ∧ ∀ x ∈ b0.c, okN m es x = true := fun i b hb => by
    obtain ⟨id, b0, hid, h6, h7, h8⟩ := look_hpN _ hb
    refine ⟨id, b0, ?_, h6, h7, h8, ?_⟩
    · rcases List.mem_append.1 hid with h | h
      · exact .inl (by have := mem_upTo.1 h; omega)
      · exact .inr h
    · have := h2 id hid
      rw [h7] at this
      exact List.all_eq_true.1 this
  refine hR ρ' a w ⟨⟨fun t sv ht => ?_, fun x id hx => ?_, ⟨hr.rel.hr.size, fun i b hb => ?_, fun i b x hb hx => ?_, fun i b x hb hk hx => ?_, fun i j bi bj x y hi hj hij hk hx hy => ?_, hr.rel.hr.gw⟩, hr.rel.kept, hr.rel.defers⟩, ?_⟩
  · unfold St.get normSt at ht
    simp only at ht
    split at ht
    · rename_i v hv
      injection ht with ht
      subst ht
      obtain ⟨u, hu, rfl, hk⟩ := nth_keep _ _ _ hv
      have hs := slotsB_spec _ _ _ h1 hu hk
      have hg : s.get t = some u := by unfold St.get; rw [hu]
      obtain ⟨h6, h7⟩ := hr.rel.slots t u hg
      have hall := SV.allB_all.1 hs
      refine ⟨h6.trans (SV.ren_conc (hall.mono fun x hx => hSame x hx)).symm, SV.ren_in (hall.mono fun x hx id hid => (hok id (hseg x hx id hid)).2)⟩
    · cases ht
  · have hid : id < m := by
      rcases hx with ⟨g, rfl, hg⟩ | hx
      · exact Nat.le_of_ble_eq_true (h3 _ (look_mem _ _ _ hg))
      · exact hm id x hx
    have h6 := (hr.rel.globals x id hx).1
    have h7 := (hok id (.inl hid)).1
    rw [hlow id hid] at h7
    exact ⟨by rw [h7]; exact h6, show id < m + es.length by omega⟩
  · obtain ⟨id, b0, hid, rfl, hb0, rfl, hc⟩ := hblk i b hb
    obtain ⟨h6, h7, h8⟩ := hr.rel.hr.blk id b0 hb0
    refine ⟨(hok id hid).2, renL_in fun x hx j hj => (hok j (hseg x (hc x hx) j hj)).2, ?_⟩
    have e1 := renL_vals fun x hx => hSame x (hc x hx)
    have e2 := (hok id hid).1
    unfold BlkOK at h8 ⊢
    rw [e1, e2]
    exact h8
  · obtain ⟨id, b0, hid, rfl, hb0, rfl, hc⟩ := hblk i b hb
    rw [(hok id hid).1] at hx
    exact hr.rel.hr.lt id b0 x hb0 hx
  · obtain ⟨id, b0, hid, rfl, hb0, rfl, hc⟩ := hblk i b hb
    rw [(hok id hid).1] at hx
    exact hr.rel.hr.own id b0 x hb0 hk hx
  · obtain ⟨id, b0, hid, rfl, hb0, rfl, hc⟩ := hblk i bi hi
    obtain ⟨id', b1, hid', rfl, hb1, rfl, hc'⟩ := hblk j bj hj
    rw [(hok id hid).1] at hx
    rw [(hok id' hid').1] at hy
    exact hr.rel.hr.dist id id' b0 b1 x y hb0 hb1 (fun e => hij (by rw [e])) hk hx hy
  · rw [hr.size]
    exact (keepTm_len _ _).symm

theorem loop_runs {x : Code} {k : List AI} {s : St} (n : Nat) (h : Runs P B N M w0 (.hd n x :: k) s) : Runs P B N M w0 (.code (.loop x) :: k) s :=
  fun ρ a w hr => wp_loop_rounds n (h ρ a w hr)
theorem hd_runs {x : Code} {k : List AI} {s : St} {n : Nat} (h : Runs P B N M w0 (.code x :: .hd n x :: k) s) : Runs P B N M w0 (.hd (n + 1) x :: k) s := by
  intro ρ a w hr
  have := h ρ a w hr
  show x.wp P (Exit.then (Code.rounds P x (Kst P B k) n) (Kst P B k)) a w
  rw [← kst_hd]
  exact this

omit [GT] in
/-- A run, up to where it stops, and the state there by its new names. -/
def runN (T : List (Nat × Ty)) (O : List (Nat × Ent)) (H : Nat → Nat → Hint) (LH : List (Nat × Nat)) (fuel : Nat) (m : Nat) (es ks : List Nat) (todo : List AI) (s : St) : Option (List AI × St × List Prop) :=
  match arun T O H LH fuel todo s with
  | some o => match normB m es ks o.st with
    | true => some (o.todo, normSt m es ks o.st, o.asm.list [])
    | false => none
  | none => none
theorem runN_runs (hT : TOK P T) (hO : OOK P O) (hmx : P.follows .mixedOrders = true) {H : Nat → Nat → Hint} {LH : List (Nat × Nat)} {fuel m : Nat} {es ks : List Nat} {todo todo' : List AI} {s s' : St} {ps : List Prop} (h : runN T O H LH fuel m es ks todo s = some (todo', s', ps)) (hps : AllP ps) (hm : ∀ id x, w0.lk id = some x → id < m) (hR : Runs P B N M w0 todo' s') : Runs P B N M w0 todo s := by
  unfold runN at h
  split at h
  · rename_i o ho
    split at h
    · rename_i hn
      simp only [Option.some.injEq, Prod.mk.injEq] at h
      obtain ⟨rfl, rfl, rfl⟩ := h
      exact arun_sound hT hO hmx _ _ _ _ ho (Asm.of_list _ _ hps).1 (norm_runs hn hm hR)
    · cases h
  · cases h

theorem Reaches.trans {m0 : Nat} {a b c : List AI} {s t u : St} (h : Reaches P m0 a s b t) (k : Reaches P m0 b t c u) : Reaches P m0 a s c u := fun B N M w0 hl hR => h B N M w0 hl (k B N M w0 hl hR)
theorem Reaches.refl {m0 : Nat} {a : List AI} {s : St} : Reaches P m0 a s a s := fun _ _ _ _ _ h => h
theorem Reaches.loop {m0 : Nat} {x : Code} {k c : List AI} {s u : St} (n : Nat) (h : Reaches P m0 (.hd n x :: k) s c u) : Reaches P m0 (.code (.loop x) :: k) s c u := fun B N M w0 hl hR => loop_runs n (h B N M w0 hl hR)
theorem Reaches.round {m0 : Nat} {x : Code} {k c : List AI} {s u : St} {n : Nat} (h : Reaches P m0 (.code x :: .hd n x :: k) s c u) : Reaches P m0 (.hd (n + 1) x :: k) s c u := fun B N M w0 hl hR => hd_runs (h B N M w0 hl hR)
theorem reach_run (hT : TOK P T) (hO : OOK P O) (hmx : P.follows .mixedOrders = true) {H : Nat → Nat → Hint} {LH : List (Nat × Nat)} {fuel m0 m : Nat} {es ks : List Nat} {todo todo' : List AI} {s s' : St} {ps : List Prop} (h : runN T O H LH fuel m es ks todo s = some (todo', s', ps)) (hps : AllP ps) (hm : Nat.ble m0 m = true) : Reaches P m0 todo s todo' s' :=
  fun _ _ _ _ hl hR => runN_runs hT hO hmx h hps (fun id x hx => Nat.lt_of_lt_of_le (hl id x hx) (Nat.le_of_ble_eq_true hm)) hR
end
end Go.Proofs.Ytkoackalpcmhaaa.Am
/- The cipher: the turned bytes, made. Conditions: none. -/
namespace Go.Proofs.Ytkoackalpcmhaaa.Am
set_option linter.unusedVariables false
set_option linter.unusedSimpArgs false
open Go Go.RowKit
variable [GT]

omit [GT] in
def sbox : List Int := [99, 124, 119, 123, 242, 107, 111, 197, 48, 1, 103, 43, 254, 215, 171, 118, 202, 130, 201, 125, 250, 89, 71, 240, 173, 212, 162, 175, 156, 164, 114, 192, 183, 253, 147, 38, 54, 63, 247, 204, 52, 165, 229, 241, 113, 216, 49, 21, 4, 199, 35, 195, 24, 150, 5, 154, 7, 18, 128, 226, 235, 39, 178, 117, 9, 131, 44, 26, 27, 110, 90, 160, 82, 59, 214, 179, 41, 227, 47, 132, 83, 209, 0, 237, 32, 252, 177, 91, 106, 203, 190, 57, 74, 76, 88, 207, 208, 239, 170, 251, 67, 77, 51, 133, 69, 249, 2, 127, 80, 60, 159, 168, 81, 163, 64, 143, 146, 157, 56, 245, 188, 182, 218, 33, 16, 255, 243, 210, 205, 12, 19, 236, 95, 151, 68, 23, 196, 167, 126, 61, 100, 93, 25, 115, 96, 129, 79, 220, 34, 42, 144, 136, 70, 238, 184, 20, 222, 94, 11, 219, 224, 50, 58, 10, 73, 6, 36, 92, 194, 211, 172, 98, 145, 149, 228, 121, 231, 200, 55, 109, 141, 213, 78, 169, 108, 86, 244, 234, 101, 122, 174, 8, 186, 120, 37, 46, 28, 166, 180, 198, 232, 221, 116, 31, 75, 189, 139, 138, 112, 62, 181, 102, 72, 3, 246, 14, 97, 53, 87, 185, 134, 193, 29, 158, 225, 248, 152, 17, 105, 217, 142, 148, 155, 30, 135, 233, 206, 85, 40, 223, 140, 161, 137, 13, 191, 230, 66, 104, 65, 153, 45, 15, 176, 84, 187, 22]
omit [GT] in
noncomputable def rotE : Ent := inl tyT [] noH [] 100 Try.f31 []
theorem rot_ent : EntOK Try.prog 31 rotE := inl_ok tyT_ok (ook_of (l := []) trivial) mixed_ Try.func31 (by kernel_rfl) (by kernel_rfl) []
omit [GT] in
def rotN (n : Int) : Int := ((BitVec.ofInt IntKind.u64.bits (IntKind.u64.wrap n) &&& BitVec.ofInt IntKind.u64.bits 7).toNat : Int)
omit [GT] in
def rt (z : Int) (n : Nat) : Int := IntKind.u8.wrap (BitVec.ofInt IntKind.u8.bits (IntKind.u8.wrap (z * 2 ^ min n IntKind.u8.bits)) ||| BitVec.ofInt IntKind.u8.bits (z.fdiv (2 ^ min (8 - n) IntKind.u8.bits))).toNat

omit [GT] in
noncomputable def tO : List (Nat × Ent) := [(24, e1I .u8 tw), (31, rotE)]
theorem tO_ok : OOK Try.prog tO := ook_of ⟨twice_ent, rot_ent, trivial⟩
omit [GT] in
noncomputable def tTodo : List AI := match Try.f21.body with
  | some c => todoOf (arun tyT tO noH [] 1000 [.code c] (start [] 44 [] 0 []))
  | none => []
omit [GT] in
noncomputable def tX : Code := loopOf tTodo
omit [GT] in
noncomputable def tK : List AI := restOf tTodo
omit [GT] in
/-- The state at the loop's head. -/
def tS (p q : Int) (zs : List Int) : St := { tm := tmL 44 [(1, .av (.one (.p 0 0))), (2, ofV (.int .u8 p)), (3, ofV (.int .u8 q))], hp := [(0, ⟨0, 66, [.arr .u8 zs]⟩)], nx := 1, gl := [] }
theorem t_start {c : Code} (hc : Try.f21.body = some c) : runN tyT tO noH [] 1000 0 [0] [1, 2, 3] [.code c] (start [] 44 [] 0 []) = some (.code (.loop tX) :: tK, tS 1 1 (List.replicate 256 0), []) := by
  have : ∀ d, Try.f21.body = d → (match d with | some c => runN tyT tO noH [] 1000 0 [0] [1, 2, 3] [.code c] (start [] 44 [] 0 []) | none => none) = some (.code (.loop tX) :: tK, tS 1 1 (List.replicate 256 0), []) := by
    intro d hd
    subst hd
    kernel_rfl
  have h := this _ hc
  exact h
omit [GT] in
def q3 (q : Int) : Int := let a := bx q (bs q 1); let b := bx a (bs a 2); bx b (bs b 4)
omit [GT] in
def q4 (q : Int) : Int := if (ba (q3 q) 128 != 0) = true then bx (q3 q) 9 else q3 q
omit [GT] in
def tv (q : Int) : Int := bx (bx (bx (bx (bx q (rt q 1)) (rt q 2)) (rt q 3)) (rt q 4)) 99
omit [GT] in
def tH (b e : Bool) : Nat → Nat → Hint := atH 7 2 (isB b) (atH 10 1 (isB e) (atH 9 15 symH (atH 9 16 symH (atH 11 1 symH noH))))
omit [GT] in
def isAsm (x b : Bool) : Prop := ∀ ρ : Nat → Loc, (ofV (.bool x)).conc ρ = (ofV (.bool b)).conc ρ
omit [GT] in
def tP (p q : Int) (zs : List Int) (b e : Bool) : List Prop := [isAsm (ba (q3 q) 128 != 0) b, 0 ≤ p ∧ p.toNat ≤ 255, p.toNat < zs.length, isAsm (p == 1) e]
theorem t_round1 (n : Nat) (p q : Int) (zs : List Int) : runN tyT tO (tH true false) [] 1000 1 [] [1, 2, 3] (.code tX :: .hd n tX :: tK) (tS p q zs) = some (.hd n tX :: tK, tS (bx p (tw p)) (bx (q3 q) 9) (zs.set (bx p (tw p)).toNat (tv (bx (q3 q) 9))), tP (bx p (tw p)) q zs true false) := by
  kernel_rfl
theorem t_round2 (n : Nat) (p q : Int) (zs : List Int) : runN tyT tO (tH false false) [] 1000 1 [] [1, 2, 3] (.code tX :: .hd n tX :: tK) (tS p q zs) = some (.hd n tX :: tK, tS (bx p (tw p)) (q3 q) (zs.set (bx p (tw p)).toNat (tv (q3 q))), tP (bx p (tw p)) q zs false false) := by
  kernel_rfl
theorem t_last (n : Nat) (p q : Int) (zs : List Int) : runN tyT tO (tH false true) [] 1000 1 [] [0] (.code tX :: .hd n tX :: tK) (tS p q zs) = some ([.fin], { tm := tmL 44 [(0, .av (.one (.p 0 0)))], hp := [(0, ⟨0, 66, [.arr .u8 ((zs.set (bx p (tw p)).toNat (tv (q3 q))).set 0 99)]⟩)], nx := 1, gl := [] }, tP (bx p (tw p)) q zs false true ++ [0 < (zs.set (bx p (tw p)).toNat (tv (q3 q))).length]) := by
  kernel_rfl
omit [GT] in
/-- So many rounds. -/
def tRun : Nat → Int → Int → List Int → Option (Int × Int × List Int)
  | 0, p, q, zs => some (p, q, zs)
  | n + 1, p, q, zs => match decide (0 ≤ bx p (tw p)), Nat.ble (bx p (tw p)).toNat 255, Nat.blt (bx p (tw p)).toNat zs.length, bx p (tw p) == 1 with
    | true, true, true, false => tRun n (bx p (tw p)) (q4 q) (zs.set (bx p (tw p)).toNat (tv (q4 q)))
    | _, _, _, _ => none
theorem t_rounds : ∀ (n m : Nat) (p q : Int) (zs : List Int) {p' q' : Int} {zs' : List Int}, tRun n p q zs = some (p', q', zs') → Reaches Try.prog 0 (.hd (m + n) tX :: tK) (tS p q zs) (.hd m tX :: tK) (tS p' q' zs')
  | 0, m, p, q, zs, p', q', zs', h => by
    simp only [tRun, Option.some.injEq, Prod.mk.injEq] at h
    obtain ⟨rfl, rfl, rfl⟩ := h
    exact Reaches.refl
  | n + 1, m, p, q, zs, p', q', zs', h => by
    unfold tRun at h
    split at h
    · rename_i h1 h2 h3 h4
      have h1 := of_decide_eq_true h1
      have h2 := Nat.le_of_ble_eq_true h2
      have h3 : (bx p (tw p)).toNat < zs.length := Nat.le_of_ble_eq_true h3
      have ih := t_rounds n m _ _ _ h
      refine Reaches.round ?_
      unfold q4 at ih
      cases hc : (ba (q3 q) 128 != 0) with
      | true =>
        rw [hc, if_pos rfl] at ih
        exact (reach_run tyT_ok tO_ok mixed_ (t_round1 (m + n) p q zs) ⟨fun ρ => by rw [hc], ⟨h1, h2⟩, h3, fun ρ => by rw [h4], trivial⟩ rfl).trans ih
      | false =>
        rw [hc, if_neg (by decide)] at ih
        exact (reach_run tyT_ok tO_ok mixed_ (t_round2 (m + n) p q zs) ⟨fun ρ => by rw [hc], ⟨h1, h2⟩, h3, fun ρ => by rw [h4], trivial⟩ rfl).trans ih
    · cases h
theorem t_run : ∃ p q zs, tRun 254 1 1 (List.replicate 256 0) = some (p, q, zs) ∧ bx p (tw p) = 1 ∧ (ba (q3 q) 128 != 0) = false ∧ zs.length = 256 ∧ (zs.set 1 (tv (q3 q))).set 0 99 = sbox := by
  have h : (match tRun 254 1 1 (List.replicate 256 0) with
    | some (p, q, zs) => decide (bx p (tw p) = 1) && (!(ba (q3 q) 128 != 0) && (decide (zs.length = 256) && decide ((zs.set 1 (tv (q3 q))).set 0 99 = sbox)))
    | none => false) = true := by decide +kernel
  split at h
  · rename_i p q zs ho
    simp only [Bool.and_eq_true, decide_eq_true_eq, Bool.not_eq_true'] at h
    exact ⟨p, q, zs, ho, h.1, h.2.1, h.2.2.1, h.2.2.2⟩
  · cases h
omit [GT] in
def tEnd : St := { tm := tmL 44 [(0, .av (.one (.p 0 0)))], hp := [(0, ⟨0, 66, [.arr .u8 sbox]⟩)], nx := 1, gl := [] }
theorem t_reach {c : Code} (hc : Try.f21.body = some c) : Reaches Try.prog 0 [.code c] (start [] 44 [] 0 []) [.fin] tEnd := by
  obtain ⟨p, q, zs, h1, h2, h3, h4, h5⟩ := t_run
  refine (reach_run tyT_ok tO_ok mixed_ (t_start hc) trivial rfl).trans (Reaches.loop (1 + 254) ((t_rounds 254 1 _ _ _ h1).trans (Reaches.round ?_)))
  have := t_last 0 p q zs
  have hr := reach_run (m0 := 0) tyT_ok tO_ok mixed_ this (by
    rw [h2]
    refine ⟨fun ρ => by rw [h3], ⟨by decide, by decide⟩, by rw [h4]; decide, fun ρ => rfl, ?_, trivial⟩
    show 0 < (zs.set (1 : Int).toNat _).length
    rw [List.length_set, h4]
    decide) rfl
  rw [h2] at hr
  have e : (zs.set (1 : Int).toNat (tv (q3 q))).set 0 99 = sbox := h5
  rw [e] at hr
  exact hr
omit [GT] in
def tableE : Ent := fun args _ base => match args with
  | [] => some { val := .av (.one (.p base 0)), new := [⟨0, 66, [.arr .u8 sbox]⟩] }
  | _ => none
theorem table_ent : EntOK Try.prog 21 tableE := by
  refine ⟨⟨_, Try.func21, by kernel_rfl, by kernel_rfl⟩, fun args G base res hr ha ρ D N M w hG hin hfr => ?_⟩
  unfold tableE at hr
  split at hr
  · simp only [Option.some.injEq] at hr
    subst hr
    have hb : ∃ c, Try.f21.body = some c := Option.isSome_iff_exists.1 (by kernel_rfl)
    obtain ⟨c, hc⟩ := hb
    exact inl_calls (args := []) (G := G) (σ := []) (mu := []) (mus := []) (v := .av (.one (.p 0 0))) (st := tEnd) (p := .tt) tyT_ok Try.func21 hc rfl rfl rfl (.inr rfl) (t_reach hc) (by kernel_rfl) (by kernel_rfl) hG hin hfr
  · cases hr
end Go.Proofs.Ytkoackalpcmhaaa.Am
/- The abstract machine: contracts of functions that only read, whatever shape the cells have. Conditions: none. -/
namespace Go.Proofs.Ytkoackalpcmhaaa.Am
set_option linter.unusedVariables false
set_option linter.unusedSimpArgs false
open Go Go.RowKit

section
variable {P : Program} {ρ : Nat → Loc} {D : Nat → Prop} {N : Nat} {M : List Nat} {G : Nat → Option Blk} {base : Nat}
variable [GT]

/-- A contract that makes and changes nothing. -/
theorem ent_pure {f : FuncId} {e : Ent} (hE : EntOK P f e) {args : List SV} {r : Res} (he : e args G base = some r) (ha : r.asm.holds) (hn : r.new = []) (hu : r.upd = []) (hv : svB (fun _ => false) r.val = true) {w : World} (hG : HR ρ D N M G w) (hin : ∀ s ∈ args, s.In D) :
    Calls P f (args.map (SV.conc ρ)).toArray w fun e w' => e = .returned (r.val.conc ρ) ∧ Below w.heap.size w w' := by
  refine (hE.2 args G base r he ha ρ D N M w hG hin (fun id h1 h2 => by rw [hn] at h2; simp at h2; omega)).mono fun e w' ⟨v, hv', ρ', hF⟩ => ⟨?_, (hF.fresh hu).1⟩
  rw [hv', hF.val, SV.conc_congr (D := fun _ => False) (ρ := ρ) (ρ' := ρ') (fun _ h => h.elim) (svB_in (f := fun _ => false) (fun _ h => by cases h) hv)]
/-- What a read of a row needs: one block, to be read. -/
theorem hr_one {w : World} {id : Nat} {b : Blk} (hG : HR ρ D N M G w) (hb : G id = some b) {ty : TypeId} {c : List Seg} (hc : ∀ s ∈ c, s.ids = []) (he : segsVals ρ c = segsVals ρ b.c) : HR (fun _ => ⟨(ρ id).a, widths b.c⟩) (· < 1) w.heap.size [] (fun i => if i = 0 then some ⟨2, ty, c⟩ else none) w := by
  have hcv : ∀ ρ', segsVals ρ' c = segsVals ρ c := fun ρ' => segsVals_congr (D := fun _ => False) (fun _ h => h.elim) fun s hs => Seg.in_ids.2 fun i hi => by rw [hc s hs] at hi; cases hi
  refine ⟨Nat.le_refl _, fun i b' hb' => ?_, fun i b' x hb' hx => ?_, fun i b' x hb' hk hx => ?_, fun i j bi bj x y hi hj hij hk hx hy => ?_, hG.gw.call hG.size fun g hg => by cases hg⟩
  · split at hb'
    · rename_i hi
      subst hi
      injection hb' with hb'
      subst hb'
      refine ⟨by omega, (fun s hs => Seg.in_ids.2 fun i hi => (by rw [hc s hs] at hi; cases hi)), ?_⟩
      show (segsVals _ c).length ≤ _ ∧ _
      rw [hcv, he]
      refine ⟨by rw [segsVals_len]; exact Nat.le_refl _, ?_⟩
      cases hs : segsVals ρ b.c with
      | nil => exact .inl rfl
      | cons y l =>
        right
        have hok := (hG.blk id b hb).2.2
        obtain ⟨x, hx, _⟩ := hok.cells (j := 0) (u := y) (by rw [hs]; rfl)
        refine ⟨x, hx, fun j u hj => ?_⟩
        rw [← hs] at hj
        obtain ⟨x', hx', hc'⟩ := hok.cells hj
        rw [hx] at hx'
        injection hx' with hx'
        subst hx'
        exact hc'
    · cases hb'
  · split at hb'
    · exact hG.lt id b x hb hx
    · cases hb'
  · split at hb'
    · injection hb' with hb'
      subst hb'
      simp at hk
    · cases hb'
  · split at hi
    · injection hi with hi
      subst hi
      simp at hk
    · cases hi
/-- What reads of several blocks need. -/
theorem hr_ros {w : World} (hG : HR ρ D N M G w) {ρc : Nat → Loc} {k : Nat} {hp0 : List (Nat × Blk)} (h : ∀ i b, look hp0 i = some b → b.k = 2 ∧ i < k ∧ segsIn (· < k) b.c ∧ ∃ id b0, G id = some b0 ∧ ρc i = ⟨(ρ id).a, widths b0.c⟩ ∧ segsVals ρc b.c = segsVals ρ b0.c) : HR ρc (· < k) w.heap.size [] (look hp0) w := by
  refine ⟨Nat.le_refl _, fun i b hb => ?_, fun i b x hb hx => ?_, fun i b x hb hk hx => ?_, fun i j bi bj x y hi hj hij hk hx hy => ?_, hG.gw.call hG.size fun g hg => by cases hg⟩
  · obtain ⟨h1, h2, h3, id, b0, hb0, hρ, he⟩ := h i b hb
    refine ⟨h2, h3, ?_⟩
    obtain ⟨kk, ty, c⟩ := b
    simp only at h1 he
    subst h1
    show (segsVals _ c).length ≤ _ ∧ _
    rw [he, hρ]
    refine ⟨by rw [segsVals_len]; exact Nat.le_refl _, ?_⟩
    cases hs : segsVals ρ b0.c with
    | nil => exact .inl rfl
    | cons y l =>
      right
      have hok := (hG.blk id b0 hb0).2.2
      obtain ⟨x, hx, _⟩ := hok.cells (j := 0) (u := y) (by rw [hs]; rfl)
      refine ⟨x, hx, fun j u hj => ?_⟩
      rw [← hs] at hj
      obtain ⟨x', hx', hc'⟩ := hok.cells hj
      rw [hx] at hx'
      injection hx' with hx'
      subst hx'
      exact hc'
  · obtain ⟨h1, h2, h3, id, b0, hb0, hρ, he⟩ := h i b hb
    rw [hρ] at hx
    exact hG.lt id b0 x hb0 hx
  · have := (h i b hb).1
    omega
  · have := (h i bi hi).1
    omega
/-- A run that reads, and hands back a value. -/
theorem reach_val {T : List (Nat × Ty)} (hT : TOK P T) {f : FuncId} {fn : Func} (hf : P.funcs[f]? = some fn) {c : Code} (hb : fn.body = some c) {avs : List SV} {k : Nat} {hp0 : List (Nat × Blk)} {todo' : List AI} (hfin : todo' = [] ∨ todo' = [.fin]) {st : St} (hRe : Reaches P 0 [.code c] (start avs fn.ntmps hp0 k []) todo' st) {v : SV} (hv : resVal T st fn.results.toList = some v) (hvb : svB (fun _ => false) v = true) {ρc : Nat → Loc} {w : World} (hlen : Nat.ble avs.length fn.ntmps = true) (hin : ∀ s ∈ avs, s.In (· < k)) (hG : HR ρc (· < k) w.heap.size [] (look hp0) w) (ρ : Nat → Loc) :
    Calls P f (avs.map (SV.conc ρc)).toArray w fun e w' => e = .returned (v.conc ρ) ∧ Below w.heap.size w w' := by
  refine calls_am hf hb (ρ := ρc) (M := []) (nx := k) (hp := hp0) (gl := []) rfl hin (Nat.le_of_ble_eq_true hlen) hG (lk := fun _ => none) (fun x i h => by rcases h with ⟨_, _, h⟩ | h <;> cases h) ?_
  refine hRe _ _ _ _ (fun id x hx => by cases hx) (runs_end hT hfin hv fun ρ1 a1 w1 hrel => ⟨?_, hrel.rel.kept.below⟩)
  rw [SV.conc_congr (D := fun _ => False) (ρ := ρ) (ρ' := ρ1) (fun _ h => h.elim) (svB_in (f := fun _ => false) (fun _ h => by cases h) hvb)]
/-- A run that reads, and hands back new blocks. -/
theorem reach_newG {T : List (Nat × Ty)} (hT : TOK P T) {f : FuncId} {fn : Func} (hf : P.funcs[f]? = some fn) {c : Code} (hb : fn.body = some c) {avs : List SV} {k : Nat} {hp0 : List (Nat × Blk)} {todo' : List AI} (hfin : todo' = [] ∨ todo' = [.fin]) {st : St} {gl : List (Nat × Nat)} (hRe : Reaches P 0 [.code c] (start avs fn.ntmps hp0 k gl) todo' st) {v : SV} (hv : resVal T st fn.results.toList = some v) {es : List Nat} (hvX : v.allB (expB 0 es fun _ => false) = true) (heX : es.all (esB 0 st.hp (expB 0 es fun _ => false)) = true) (hnd : nodupB es = true)
    {ρc : Nat → Loc} {w : World} (hlen : Nat.ble avs.length fn.ntmps = true) (hin : ∀ s ∈ avs, s.In (· < k)) (hG0 : HR ρc (· < k) w.heap.size [] (look hp0) w) (hgl : ∀ g id, look gl g = some id → (ρc id).a = some ⟨g, 0, none⟩ ∧ id < k) (hG : HR ρ D N M G w) (hfr : ∀ id, base ≤ id → id < base + es.length → ¬ D id) {r : Res} (hr : (r.val, r.new, r.upd) = (v.ren fun e => base + idx e es, newOf st.hp (fun e => base + idx e es) es, [])) :
    Calls P f (avs.map (SV.conc ρc)).toArray w fun e w' => ∃ v', e = .returned v' ∧ ∃ ρ', Fits ρ D N M G base r w ρ' v' w' := by
  simp only [Prod.mk.injEq] at hr
  obtain ⟨hr1, hr2, hr3⟩ := hr
  refine calls_am hf hb (ρ := ρc) (M := []) (nx := k) (hp := hp0) (gl := gl) rfl hin (Nat.le_of_ble_eq_true hlen) hG0 (lk := fun _ => none) (fun x i h => by
    rcases h with ⟨g, rfl, h⟩ | h
    · exact hgl g i h
    · cases h) ?_
  refine hRe _ _ _ _ (fun id x hx => by cases hx) (runs_end hT hfin hv fun ρ1 a1 w1 hrel => ⟨_, rfl, ?_⟩)
  have heX := List.all_eq_true.1 heX
  have hesS : ∀ e ∈ es, ([] : List Nat).length ≤ e ∧ ∃ b, look st.hp e = some b ∧ b.k < 2 := fun e he => by
    have := heX e he
    unfold esB at this
    split at this
    · rename_i b hb
      rw [Bool.and_eq_true, Bool.and_eq_true] at this
      exact ⟨Nat.zero_le _, b, hb, Nat.le_of_ble_eq_true this.2.1⟩
    · cases this
  have hesn := nodupB_spec hnd
  obtain ⟨hn1, hn2⟩ := newOf_spec (hp := st.hp) (τ := fun e => base + idx e es) (es := es) fun e he => (hesS e he).2.imp fun _ h => h.1
  refine inl_fits (G1 := look st.hp) (nx := st.nx) (σ := []) (es := es) (mu := []) (Mc := []) hG (fun i id hi => by simp at hi) (fun i j id hi => by simp at hi) hfr hrel.rel.hr hrel.rel.kept (fun i id x hi => by simp at hi) (fun g hg => by cases hg) (fun i hi => by cases hi) hesS (fun i j e h1 h2 => ?_) (τ := fun e => base + idx e es) (fun i id hi => by simp at hi) (fun j e he => ?_) hr1 (by rw [hr2]; exact hn1) (by rw [hr2]; exact hn2) (fun i id b hi => by cases hi) (fun id _ => by rw [hr3]; rfl) (fun _ => rfl) (fun s => expB 0 es (fun _ => false) s = true) (fun s hs => ?_) (SV.allB_all.1 hvX) (fun e he b hb s hs => ?_) (fun i hi => by cases hi)
  · exact (List.getElem?_inj (by
      rcases Nat.lt_or_ge i es.length with h | h
      · exact h
      · rw [List.getElem?_eq_none h] at h1; cases h1) hesn).1 (h1.trans h2.symm)
  · have he' := List.mem_of_getElem? he
    have h1 := idx_get he'
    rw [(List.getElem?_inj (idx_lt he') hesn).1 (h1.trans he.symm)]
  · have key : ∀ id, (memB id es || (Nat.blt id 0 && false)) = true → id ∈ es := fun id h => by
      rw [Bool.and_false, Bool.or_false] at h
      exact memB_mem.1 h
    cases s with
    | v | num | arr | ap => exact ⟨fun id hid => by simp [Seg.ids] at hid, fun _ _ _ _ h => by cases h⟩
    | p id off => exact ⟨fun i hi => by simp [Seg.ids] at hi; subst hi; exact .inl (key _ hs), fun _ _ _ _ h => by cases h⟩
    | s id off len cap => exact ⟨fun i hi => by simp [Seg.ids] at hi; subst hi; exact .inl (key _ hs), fun _ _ _ _ h => by cases h⟩
    | r id off len ad => exact ⟨fun i hi => by simp [Seg.ids] at hi; subst hi; exact .inl (memB_mem.1 hs), fun _ _ _ _ h => by injection h with h; subst h; exact memB_mem.1 hs⟩
  · have := heX e he
    unfold esB at this
    rw [hb] at this
    simp only [Bool.and_eq_true, List.all_eq_true] at this
    exact this.2.2 s hs
/-- A run that reads, and hands back new blocks. -/
theorem reach_new {T : List (Nat × Ty)} (hT : TOK P T) {f : FuncId} {fn : Func} (hf : P.funcs[f]? = some fn) {c : Code} (hb : fn.body = some c) {avs : List SV} {k : Nat} {hp0 : List (Nat × Blk)} {todo' : List AI} (hfin : todo' = [] ∨ todo' = [.fin]) {st : St} (hRe : Reaches P 0 [.code c] (start avs fn.ntmps hp0 k []) todo' st) {v : SV} (hv : resVal T st fn.results.toList = some v) {es : List Nat} (hvX : v.allB (expB 0 es fun _ => false) = true) (heX : es.all (esB 0 st.hp (expB 0 es fun _ => false)) = true) (hnd : nodupB es = true)
    {ρc : Nat → Loc} {w : World} (hlen : Nat.ble avs.length fn.ntmps = true) (hin : ∀ s ∈ avs, s.In (· < k)) (hG0 : HR ρc (· < k) w.heap.size [] (look hp0) w) (hG : HR ρ D N M G w) (hfr : ∀ id, base ≤ id → id < base + es.length → ¬ D id) {r : Res} (hr : (r.val, r.new, r.upd) = (v.ren fun e => base + idx e es, newOf st.hp (fun e => base + idx e es) es, [])) :
    Calls P f (avs.map (SV.conc ρc)).toArray w fun e w' => ∃ v', e = .returned v' ∧ ∃ ρ', Fits ρ D N M G base r w ρ' v' w' :=
  reach_newG hT hf hb hfin hRe hv hvX heX hnd hlen hin hG0 (fun g id h => by cases h) hG hfr hr

end
end Go.Proofs.Ytkoackalpcmhaaa.Am
/- The cipher: words together, a word's turned bytes, a column mixed. Conditions: none. -/
namespace Go.Proofs.Ytkoackalpcmhaaa.Am
set_option linter.unusedVariables false
set_option linter.unusedSimpArgs false
open Go Go.RowKit
variable [GT]

omit [GT] in
def g2 (l : List Int) (i : Nat) : Int := l.getD i 0
omit [GT] in
/-- Words together. -/
def wx (l : List Int) : Nat → List Int
  | 0 => [0, 0, 0, 0]
  | n + 1 => let o := wx l n; [bx (g2 o 0) (g2 l (4 * n)), bx (g2 o 1) (g2 l (4 * n + 1)), bx (g2 o 2) (g2 l (4 * n + 2)), bx (g2 o 3) (g2 l (4 * n + 3))]
omit [GT] in
noncomputable def withI : Ent := inl tyT [] noH [(3, 9), (6, 5)] 1000 Try.f22 []
theorem with_ent0 : EntOK Try.prog 22 withI := inl_ok tyT_ok (ook_of (l := []) trivial) mixed_ Try.func22 (by kernel_rfl) (by kernel_rfl) []
omit [GT] in
def valR (r : Option Res) : Option (SV × List Blk × List (Nat × Option Blk) × List Prop) := match r with
  | some r => some (r.val, r.new, r.upd, r.asm.list [])
  | none => none
theorem with2 (a b c d e f g h : Int) (base : Nat) : valR (withI [.av (.one (.s 0 0 2 2))] (fun i => if i = 0 then some ⟨2, 50, [.arr .u8 [a, b, c, d, e, f, g, h]]⟩ else none) base) = some (.av (.one (.arr .u8 (wx [a, b, c, d, e, f, g, h] 2))), [], [], []) := by kernel_rfl
theorem with5 (a0 a1 a2 a3 b0 b1 b2 b3 c0 c1 c2 c3 d0 d1 d2 d3 e0 e1 e2 e3 : Int) (base : Nat) : valR (withI [.av (.one (.s 0 0 5 5))] (fun i => if i = 0 then some ⟨2, 50, [.arr .u8 [a0, a1, a2, a3, b0, b1, b2, b3, c0, c1, c2, c3, d0, d1, d2, d3, e0, e1, e2, e3]]⟩ else none) base) = some (.av (.one (.arr .u8 (wx [a0, a1, a2, a3, b0, b1, b2, b3, c0, c1, c2, c3, d0, d1, d2, d3, e0, e1, e2, e3] 5))), [], [], []) := by kernel_rfl
end Go.Proofs.Ytkoackalpcmhaaa.Am
/- The cipher: contracts of with, mixed, turn, add, rows. Conditions: none. -/
namespace Go.Proofs.Ytkoackalpcmhaaa.Am
set_option linter.unusedVariables false
set_option linter.unusedSimpArgs false
open Go Go.RowKit
variable [GT]

omit [GT] in
def eWith : Ent := fun args G _ => match args with
  | [.av (.one (.s id 0 n m))] => match G id with
    | some b => match intsOf .u8 b.c with
      | some [a, b, c, d, e, f, g, h] => match Nat.beq n 2 && Nat.beq m 2 with
        | true => some { val := .av (.one (.arr .u8 (wx [a, b, c, d, e, f, g, h] 2))) }
        | false => none
      | some [a0, a1, a2, a3, b0, b1, b2, b3, c0, c1, c2, c3, d0, d1, d2, d3, e0, e1, e2, e3] => match Nat.beq n 5 && Nat.beq m 5 with
        | true => some { val := .av (.one (.arr .u8 (wx [a0, a1, a2, a3, b0, b1, b2, b3, c0, c1, c2, c3, d0, d1, d2, d3, e0, e1, e2, e3] 5))) }
        | false => none
      | _ => none
    | none => none
  | _ => none
theorem valR_some {o : Option Res} {v : SV} (h : valR o = some (v, [], [], [])) : ∃ r, o = some r ∧ r.val = v ∧ r.new = [] ∧ r.upd = [] ∧ r.asm.holds := by
  unfold valR at h
  split at h
  · rename_i r
    simp only [Option.some.injEq, Prod.mk.injEq] at h
    exact ⟨r, rfl, h.1, h.2.1, h.2.2.1, (Asm.of_list r.asm [] (by rw [h.2.2.2]; trivial)).1⟩
  · cases h
theorem with_go {ρ : Nat → Loc} {D : Nat → Prop} {N : Nat} {M : List Nat} {G : Nat → Option Blk} {w : World} (hG : HR ρ D N M G w) {id n : Nat} {b : Blk} (hb : G id = some b) {zs : List Int} (hz : intsOf .u8 b.c = some zs) {v : List Int} (hv : ∀ base, valR (withI [.av (.one (.s 0 0 n n))] (fun i => if i = 0 then some ⟨2, 50, [.arr .u8 zs]⟩ else none) base) = some (.av (.one (.arr .u8 v)), [], [], [])) :
    Calls Try.prog 22 ([SV.av (.one (.s id 0 n n))].map (SV.conc ρ)).toArray w fun e w' => e = .returned (SV.conc ρ (.av (.one (.arr .u8 v)))) ∧ Below w.heap.size w w' := by
  obtain ⟨r, hr, h1, h2, h3, h4⟩ := valR_some (hv 1)
  have hH := hr_one (ty := 50) (c := [.arr .u8 zs]) hG hb (fun s hs => by simp at hs; subst hs; rfl) (by rw [intsOf_spec ρ _ _ hz, segsVals_one]; rfl)
  have := ent_pure with_ent0 hr h4 h2 h3 (by rw [h1]; rfl) hH (fun s hs => by simp at hs; subst hs; intro s hs; simp [AV.segs] at hs; subst hs; exact Nat.zero_lt_one)
  rw [h1] at this
  exact this
theorem with_ent : EntOK Try.prog 22 eWith := by
  refine ⟨with_ent0.1, fun args G base res hr ha ρ D N M w hG hin hfr => ?_⟩
  unfold eWith at hr
  split at hr
  · rename_i id n m
    split at hr
    · rename_i b hb
      split at hr
      · rename_i a0 a1 a2 a3 b0 b1 b2 b3 hz
        split at hr
        · rename_i hnm
          rw [Bool.and_eq_true] at hnm
          have e1 := Nat.eq_of_beq_eq_true hnm.1
          have e2 := Nat.eq_of_beq_eq_true hnm.2
          subst e1 e2
          simp only [Option.some.injEq] at hr
          subst hr
          exact ent_val (with_go hG hb hz fun base => with2 a0 a1 a2 a3 b0 b1 b2 b3 base) hG rfl rfl rfl
        · cases hr
      · rename_i a0 a1 a2 a3 b0 b1 b2 b3 c0 c1 c2 c3 d0 d1 d2 d3 e0 e1 e2 e3 hz
        split at hr
        · rename_i hnm
          rw [Bool.and_eq_true] at hnm
          have e1' := Nat.eq_of_beq_eq_true hnm.1
          have e2' := Nat.eq_of_beq_eq_true hnm.2
          subst e1' e2'
          simp only [Option.some.injEq] at hr
          subst hr
          exact ent_val (with_go hG hb hz fun base => with5 a0 a1 a2 a3 b0 b1 b2 b3 c0 c1 c2 c3 d0 d1 d2 d3 e0 e1 e2 e3 base) hG rfl rfl rfl
        · cases hr
      · cases hr
    · cases hr
  · cases hr

omit [GT] in
/-- A column, mixed. -/
def mixW (a b c d : Int) : List Int := wx [tw a, tw b, tw c, tw d, tw b, tw c, tw d, tw a, b, c, d, a, c, d, a, b, d, a, b, c] 5
omit [GT] in
def eMix : Ent := fun args _ _ => match args with
  | [.av a] => match intsOf .u8 a.segs, aggB a with
    | some [x, y, z, u], true => some { val := .av (.one (.arr .u8 (mixW x y z u))) }
    | _, _ => none
  | _ => none
theorem mix_go (x y z u : Int) (ρ : Nat → Loc) (w : World) (hgw : GWok w.heap.size [] w) : Calls Try.prog 29 ([SV.av (.one (.arr .u8 [x, y, z, u]))].map (SV.conc ρ)).toArray w fun e w' => e = .returned (SV.conc ρ (.av (.one (.arr .u8 (mixW x y z u))))) ∧ Below w.heap.size w w' :=
  am_val (ps := []) tyT_ok (ook_of (l := [(24, e1I .u8 tw), (22, eWith)]) ⟨twice_ent, with_ent, trivial⟩) mixed_ Try.func29 (by kernel_rfl) (H := noH) (LH := []) (fuel := 1000) (by kernel_rfl) trivial (by kernel_rfl) (by kernel_rfl) ρ w hgw
theorem mix_ent : EntOK Try.prog 29 eMix := by
  refine ⟨⟨_, Try.func29, by kernel_rfl, by kernel_rfl⟩, fun args G base res hr ha ρ D N M w hG hin hfr => ?_⟩
  unfold eMix at hr
  split at hr
  · rename_i a
    split at hr
    · rename_i x y z u hz hagg
      simp only [Option.some.injEq] at hr
      subst hr
      have e : SV.conc ρ (.av a) = SV.conc ρ (.av (.one (.arr .u8 [x, y, z, u]))) := by
        rw [conc_av, aggB_conc ρ hagg, intsOf_spec ρ _ _ hz]
        rfl
      have h := mix_go x y z u ρ w hG.gwc
      simp only [List.map_cons, List.map_nil] at h ⊢
      rw [e]
      exact ent_val h hG rfl rfl rfl
    · cases hr
  · cases hr
end Go.Proofs.Ytkoackalpcmhaaa.Am
/- The cipher: a block's rounds. Conditions: none. -/
namespace Go.Proofs.Ytkoackalpcmhaaa.Am
set_option linter.unusedVariables false
set_option linter.unusedSimpArgs false
open Go Go.RowKit
variable [GT]

omit [GT] in
def turnH : Nat → Nat → Hint := atH 1 4 symH (atH 1 5 symH (atH 1 10 symH (atH 1 11 symH (atH 1 16 symH (atH 1 17 symH (atH 1 22 symH (atH 1 23 symH noH)))))))
omit [GT] in
noncomputable def turnE : Ent := inl tyT [] turnH [] 1000 Try.f23 []
theorem turn_ent : EntOK Try.prog 23 turnE := inl_ok tyT_ok (ook_of (l := []) trivial) mixed_ Try.func23 (by kernel_rfl) (by kernel_rfl) []
omit [GT] in
noncomputable def addE : Ent := inl tyT [(22, eWith)] noH [(1, 5)] 1000 Try.f27 [0]
theorem add_ent : EntOK Try.prog 27 addE := inl_ok tyT_ok (ook_of (l := [(22, eWith)]) ⟨with_ent, trivial⟩) mixed_ Try.func27 (by kernel_rfl) (by kernel_rfl) [0]
omit [GT] in
noncomputable def rowsE : Ent := inl tyT [] noH [(2, 5), (5, 5)] 1000 Try.f28 [0]
theorem rows_ent : EntOK Try.prog 28 rowsE := inl_ok tyT_ok (ook_of (l := []) trivial) mixed_ Try.func28 (by kernel_rfl) (by kernel_rfl) [0]
omit [GT] in
noncomputable def bO : List (Nat × Ent) := [(23, turnE), (27, addE), (28, rowsE), (29, eMix)]
theorem bO_ok : OOK Try.prog bO := ook_of ⟨turn_ent, add_ent, rows_ent, mix_ent, trivial⟩

omit [GT] in
def keyL (n : Nat) (kf : Nat → Int) : List Int := (upTo 0 n).map kf
omit [GT] in
def bHp (kf : Nat → Int) : List (Nat × Blk) := [(0, ⟨2, 66, [.arr .u8 sbox]⟩), (1, ⟨2, 53, [.p 0 0, .arr .u8 (keyL 240 kf)]⟩)]
omit [GT] in
def bArgs (bf : Nat → Int) : List SV := [.av (.one (.p 1 0)), .av (.one (.arr .u8 (keyL 16 bf)))]
omit [GT] in
def bLH : List (Nat × Nat) := [(3, 5), (12, 5), (18, 5), (26, 17)]
omit [GT] in
noncomputable def bTodo : List AI := match Try.f13.body with
  | some c => todoOf (arun tyT bO noH bLH 1000 [.code c] (start (bArgs fun _ => 0) 86 (bHp fun _ => 0) 2 []))
  | none => []
omit [GT] in
noncomputable def bX : Code := loopOf bTodo
omit [GT] in
noncomputable def bK : List AI := restOf bTodo
omit [GT] in
def piece (g : Nat → Int) (c : Nat) : Seg := .arr .u8 [g (4 * c), g (4 * c + 1), g (4 * c + 2), g (4 * c + 3)]
omit [GT] in
/-- The state at the rounds' head. -/
def bS (kf g : Nat → Int) (r : Int) : St := { tm := tmL 86 [(0, .av (.one (.p 1 0))), (4, .av (.one (.p 2 0))), (5, .av (.one (.p 3 0))), (7, ofV (.int .i64 r))], hp := bHp kf ++ [(2, ⟨0, 23, [.arr .u8 (List.replicate 16 0)]⟩), (3, ⟨0, 59, [piece g 0, piece g 1, piece g 2, piece g 3]⟩)], nx := 4, gl := [] }
omit [GT] in
def wk (g kf : Nat → Int) (r c : Nat) : List Int := wx [g (4 * c), g (4 * c + 1), g (4 * c + 2), g (4 * c + 3), kf (16 * r + 4 * c), kf (16 * r + 4 * c + 1), kf (16 * r + 4 * c + 2), kf (16 * r + 4 * c + 3)] 2
omit [GT] in
/-- A round's words put to it. -/
def gAdd (kf : Nat → Int) (r : Nat) (g : Nat → Int) (i : Nat) : Int := g2 (wk g kf r (i / 4)) (i % 4)
omit [GT] in
def sb (x : Int) : Int := sbox.getD x.toNat 0
omit [GT] in
def gRow (g : Nat → Int) (i : Nat) : Int := sb (g (4 * ((i / 4 + i % 4) % 4) + i % 4))
omit [GT] in
def gMix (g : Nat → Int) (i : Nat) : Int := g2 (mixW (g (4 * (i / 4))) (g (4 * (i / 4) + 1)) (g (4 * (i / 4) + 2)) (g (4 * (i / 4) + 3))) (i % 4)
omit [GT] in
def bPs (g : Nat → Int) : Nat → Nat → List Prop
  | _, 0 => []
  | i, n + 1 => (0 ≤ g i ∧ (g i).toNat ≤ 255) :: ((g i).toNat < sbox.length) :: bPs g (i + 1) n
theorem b_start (kf bf : Nat → Int) {c : Code} (hc : Try.f13.body = some c) : runN tyT bO noH bLH 1000 2 [3, 4] [0, 4, 5, 7] [.code c] (start (bArgs bf) 86 (bHp kf) 2 []) = some (.code (.loop bX) :: bK, bS kf (gAdd kf 0 bf) 1, []) := by
  have : ∀ d, Try.f13.body = d → (match d with | some c => runN tyT bO noH bLH 1000 2 [3, 4] [0, 4, 5, 7] [.code c] (start (bArgs bf) 86 (bHp kf) 2 []) | none => none) = some (.code (.loop bX) :: bK, bS kf (gAdd kf 0 bf) 1, []) := by
    intro d hd
    subst hd
    kernel_rfl
  exact this _ hc
theorem b_round1 (kf g : Nat → Int) (n : Nat) : runN tyT bO noH bLH 2000 4 [] [0, 4, 5, 7] (.code bX :: .hd n bX :: bK) (bS kf g 1) = some (.hd n bX :: bK, bS kf (gAdd kf 1 (gMix (gRow g))) 2, bPs g 0 16) := by
  kernel_rfl
theorem b_round2 (kf g : Nat → Int) (n : Nat) : runN tyT bO noH bLH 2000 4 [] [0, 4, 5, 7] (.code bX :: .hd n bX :: bK) (bS kf g 2) = some (.hd n bX :: bK, bS kf (gAdd kf 2 (gMix (gRow g))) 3, bPs g 0 16) := by
  kernel_rfl
theorem b_round3 (kf g : Nat → Int) (n : Nat) : runN tyT bO noH bLH 2000 4 [] [0, 4, 5, 7] (.code bX :: .hd n bX :: bK) (bS kf g 3) = some (.hd n bX :: bK, bS kf (gAdd kf 3 (gMix (gRow g))) 4, bPs g 0 16) := by
  kernel_rfl
theorem b_round4 (kf g : Nat → Int) (n : Nat) : runN tyT bO noH bLH 2000 4 [] [0, 4, 5, 7] (.code bX :: .hd n bX :: bK) (bS kf g 4) = some (.hd n bX :: bK, bS kf (gAdd kf 4 (gMix (gRow g))) 5, bPs g 0 16) := by
  kernel_rfl
theorem b_round5 (kf g : Nat → Int) (n : Nat) : runN tyT bO noH bLH 2000 4 [] [0, 4, 5, 7] (.code bX :: .hd n bX :: bK) (bS kf g 5) = some (.hd n bX :: bK, bS kf (gAdd kf 5 (gMix (gRow g))) 6, bPs g 0 16) := by
  kernel_rfl
theorem b_round6 (kf g : Nat → Int) (n : Nat) : runN tyT bO noH bLH 2000 4 [] [0, 4, 5, 7] (.code bX :: .hd n bX :: bK) (bS kf g 6) = some (.hd n bX :: bK, bS kf (gAdd kf 6 (gMix (gRow g))) 7, bPs g 0 16) := by
  kernel_rfl
theorem b_round7 (kf g : Nat → Int) (n : Nat) : runN tyT bO noH bLH 2000 4 [] [0, 4, 5, 7] (.code bX :: .hd n bX :: bK) (bS kf g 7) = some (.hd n bX :: bK, bS kf (gAdd kf 7 (gMix (gRow g))) 8, bPs g 0 16) := by
  kernel_rfl
theorem b_round8 (kf g : Nat → Int) (n : Nat) : runN tyT bO noH bLH 2000 4 [] [0, 4, 5, 7] (.code bX :: .hd n bX :: bK) (bS kf g 8) = some (.hd n bX :: bK, bS kf (gAdd kf 8 (gMix (gRow g))) 9, bPs g 0 16) := by
  kernel_rfl
theorem b_round9 (kf g : Nat → Int) (n : Nat) : runN tyT bO noH bLH 2000 4 [] [0, 4, 5, 7] (.code bX :: .hd n bX :: bK) (bS kf g 9) = some (.hd n bX :: bK, bS kf (gAdd kf 9 (gMix (gRow g))) 10, bPs g 0 16) := by
  kernel_rfl
theorem b_round10 (kf g : Nat → Int) (n : Nat) : runN tyT bO noH bLH 2000 4 [] [0, 4, 5, 7] (.code bX :: .hd n bX :: bK) (bS kf g 10) = some (.hd n bX :: bK, bS kf (gAdd kf 10 (gMix (gRow g))) 11, bPs g 0 16) := by
  kernel_rfl
theorem b_round11 (kf g : Nat → Int) (n : Nat) : runN tyT bO noH bLH 2000 4 [] [0, 4, 5, 7] (.code bX :: .hd n bX :: bK) (bS kf g 11) = some (.hd n bX :: bK, bS kf (gAdd kf 11 (gMix (gRow g))) 12, bPs g 0 16) := by
  kernel_rfl
theorem b_round12 (kf g : Nat → Int) (n : Nat) : runN tyT bO noH bLH 2000 4 [] [0, 4, 5, 7] (.code bX :: .hd n bX :: bK) (bS kf g 12) = some (.hd n bX :: bK, bS kf (gAdd kf 12 (gMix (gRow g))) 13, bPs g 0 16) := by
  kernel_rfl
theorem b_round13 (kf g : Nat → Int) (n : Nat) : runN tyT bO noH bLH 2000 4 [] [0, 4, 5, 7] (.code bX :: .hd n bX :: bK) (bS kf g 13) = some (.hd n bX :: bK, bS kf (gAdd kf 13 (gMix (gRow g))) 14, bPs g 0 16) := by
  kernel_rfl
theorem b_round14 (kf g : Nat → Int) (n : Nat) : runN tyT bO noH bLH 2000 4 [] [0, 4, 5, 7] (.code bX :: .hd n bX :: bK) (bS kf g 14) = some (.hd n bX :: bK, bS kf (gAdd kf 14 (gRow g)) 15, bPs g 0 16) := by
  kernel_rfl
omit [GT] in
def bEnd (kf g : Nat → Int) : St := { tm := tmL 86 [(4, .av (.one (.p 2 0)))], hp := bHp kf ++ [(2, ⟨0, 23, [.arr .u8 (keyL 16 g)]⟩)], nx := 3, gl := [] }
theorem b_end (kf g : Nat → Int) (n : Nat) : runN tyT bO noH bLH 2000 3 [] [4] (.code bX :: .hd n bX :: bK) (bS kf g 15) = some ([.fin], bEnd kf g, []) := by
  kernel_rfl

theorem u8_wrap (x : Nat) : 0 ≤ IntKind.u8.wrap x ∧ (IntKind.u8.wrap x).toNat ≤ 255 := by
  have : IntKind.u8.wrap (x : Int) = (x : Int) % 256 := by
    simp [IntKind.wrap, IntKind.bits, IntKind.signed]
  rw [this]
  omega
theorem bx_range (a b : Int) : 0 ≤ bx a b ∧ (bx a b).toNat ≤ 255 := u8_wrap _
theorem bPs_ok {g : Nat → Int} (h : ∀ i, 0 ≤ g i ∧ (g i).toNat ≤ 255) : ∀ n i, AllP (bPs g i n)
  | 0, _ => trivial
  | n + 1, i => ⟨h i, by have := (h i).2; have : sbox.length = 256 := by decide +kernel
                         omega, bPs_ok h n (i + 1)⟩
theorem g2_range {l : List Int} (h : ∀ x ∈ l, 0 ≤ x ∧ x.toNat ≤ 255) (i : Nat) : 0 ≤ g2 l i ∧ (g2 l i).toNat ≤ 255 := by
  unfold g2
  rw [List.getD_eq_getElem?_getD]
  cases hx : l[i]? with
  | none => exact ⟨Int.le_refl _, Nat.zero_le _⟩
  | some x => exact h x (List.mem_of_getElem? hx)
theorem gAdd_range (kf : Nat → Int) (r : Nat) (g : Nat → Int) (i : Nat) : 0 ≤ gAdd kf r g i ∧ (gAdd kf r g i).toNat ≤ 255 := by
  unfold gAdd
  refine g2_range (fun x hx => ?_) _
  simp only [wk, wx, List.mem_cons, List.not_mem_nil, or_false] at hx
  rcases hx with rfl | rfl | rfl | rfl <;> exact bx_range _ _
omit [GT] in
/-- So many rounds. -/
def rnds (kf : Nat → Int) : Nat → Nat → (Nat → Int) → (Nat → Int)
  | _, 0, g => g
  | r, n + 1, g => rnds kf (r + 1) n (gAdd kf r (gMix (gRow g)))
omit [GT] in
def encG (kf bf : Nat → Int) : Nat → Int := gAdd kf 14 (gRow (rnds kf 1 13 (gAdd kf 0 bf)))
theorem b_reach (kf bf : Nat → Int) {c : Code} (hc : Try.f13.body = some c) : Reaches Try.prog 0 [.code c] (start (bArgs bf) 86 (bHp kf) 2 []) [.fin] (bEnd kf (encG kf bf)) := by
  have hr := fun r g => bPs_ok (gAdd_range kf r g) 16 0
  refine (reach_run tyT_ok bO_ok mixed_ (b_start kf bf hc) trivial rfl).trans (Reaches.loop 15 ?_)
  refine Reaches.round ((reach_run tyT_ok bO_ok mixed_ (b_round1 kf _ 14) (hr _ _) rfl).trans ?_)
  refine Reaches.round ((reach_run tyT_ok bO_ok mixed_ (b_round2 kf _ 13) (hr _ _) rfl).trans ?_)
  refine Reaches.round ((reach_run tyT_ok bO_ok mixed_ (b_round3 kf _ 12) (hr _ _) rfl).trans ?_)
  refine Reaches.round ((reach_run tyT_ok bO_ok mixed_ (b_round4 kf _ 11) (hr _ _) rfl).trans ?_)
  refine Reaches.round ((reach_run tyT_ok bO_ok mixed_ (b_round5 kf _ 10) (hr _ _) rfl).trans ?_)
  refine Reaches.round ((reach_run tyT_ok bO_ok mixed_ (b_round6 kf _ 9) (hr _ _) rfl).trans ?_)
  refine Reaches.round ((reach_run tyT_ok bO_ok mixed_ (b_round7 kf _ 8) (hr _ _) rfl).trans ?_)
  refine Reaches.round ((reach_run tyT_ok bO_ok mixed_ (b_round8 kf _ 7) (hr _ _) rfl).trans ?_)
  refine Reaches.round ((reach_run tyT_ok bO_ok mixed_ (b_round9 kf _ 6) (hr _ _) rfl).trans ?_)
  refine Reaches.round ((reach_run tyT_ok bO_ok mixed_ (b_round10 kf _ 5) (hr _ _) rfl).trans ?_)
  refine Reaches.round ((reach_run tyT_ok bO_ok mixed_ (b_round11 kf _ 4) (hr _ _) rfl).trans ?_)
  refine Reaches.round ((reach_run tyT_ok bO_ok mixed_ (b_round12 kf _ 3) (hr _ _) rfl).trans ?_)
  refine Reaches.round ((reach_run tyT_ok bO_ok mixed_ (b_round13 kf _ 2) (hr _ _) rfl).trans ?_)
  refine Reaches.round ((reach_run tyT_ok bO_ok mixed_ (b_round14 kf _ 1) (hr _ _) rfl).trans ?_)
  exact Reaches.round (reach_run tyT_ok bO_ok mixed_ (b_end kf _ 0) trivial rfl)
end Go.Proofs.Ytkoackalpcmhaaa.Am
/- The cipher: Block's contract. Conditions: none. -/
namespace Go.Proofs.Ytkoackalpcmhaaa.Am
set_option linter.unusedVariables false
set_option linter.unusedSimpArgs false
open Go Go.RowKit
variable [GT]

theorem upTo_len : ∀ i n : Nat, (upTo i n).length = n
  | _, 0 => rfl
  | i, n + 1 => by simp [upTo, upTo_len (i + 1) n]
theorem upTo_get : ∀ (i n j : Nat), j < n → (upTo i n)[j]? = some (i + j)
  | _, 0, _, h => by omega
  | i, n + 1, 0, _ => rfl
  | i, n + 1, j + 1, h => by
    rw [upTo, List.getElem?_cons_succ, upTo_get (i + 1) n j (by omega)]
    congr 1
    omega
theorem keyL_len (n : Nat) (f : Nat → Int) : (keyL n f).length = n := by simp [keyL, upTo_len]
theorem keyL_get (n : Nat) (f : Nat → Int) (j : Nat) (h : j < n) : (keyL n f)[j]? = some (f j) := by
  rw [keyL, List.getElem?_map, upTo_get 0 n j h, Nat.zero_add]
  rfl
theorem keyL_g2 {n : Nat} {l : List Int} (h : l.length = n) : keyL n (g2 l) = l := by
  refine List.ext_getElem? fun j => ?_
  by_cases hj : j < n
  · rw [keyL_get n _ j hj, g2, List.getD_eq_getElem?_getD, List.getElem?_eq_getElem (by omega)]
    rfl
  · rw [List.getElem?_eq_none (by rw [keyL_len]; omega), List.getElem?_eq_none (by omega)]
theorem g2_keyL (n : Nat) (f : Nat → Int) (j : Nat) (h : j < n) : g2 (keyL n f) j = f j := by
  rw [g2, List.getD_eq_getElem?_getD, keyL_get n f j h]
  rfl
theorem keyL_congr {n : Nat} {f g : Nat → Int} (h : ∀ j, j < n → f j = g j) : keyL n f = keyL n g := by
  refine List.ext_getElem? fun j => ?_
  by_cases hj : j < n
  · rw [keyL_get n _ j hj, keyL_get n _ j hj, h j hj]
  · rw [List.getElem?_eq_none (by rw [keyL_len]; omega), List.getElem?_eq_none (by rw [keyL_len]; omega)]

omit [GT] in
/-- A block's, by key's words and bytes. -/
def encL (ks bs : List Int) : List Int := keyL 16 (encG (g2 ks) (g2 bs))
omit [GT] in
def eBlock : Ent := fun args G _ => match args with
  | [.av (.one (.p id 0)), .av b] => match G id with
    | some ⟨_, _, .p bid 0 :: rest⟩ => match G bid, intsOf .u8 rest, intsOf .u8 b.segs, aggB b with
      | some bb, some ks, some bs, true => match intsOf .u8 bb.c, Nat.beq ks.length 240 && Nat.beq bs.length 16 with
        | some l, true => some { val := .av (.one (.arr .u8 (encL ks bs))), asm := .say (l = sbox) }
        | _, _ => none
      | _, _, _, _ => none
    | _ => none
  | _ => none
theorem block_ent : EntOK Try.prog 13 eBlock := by
  refine ⟨⟨_, Try.func13, by kernel_rfl, by kernel_rfl⟩, fun args G base res hr ha ρ D N M w hG hin hfr => ?_⟩
  unfold eBlock at hr
  split at hr
  · rename_i id b
    split at hr
    · rename_i k ty bid rest hb
      split at hr
      · rename_i bb ks bs hbb hks hbs hagg
        split at hr
        · rename_i l hl hlen
          rw [Bool.and_eq_true] at hlen
          have hk := Nat.eq_of_beq_eq_true hlen.1
          have hs := Nat.eq_of_beq_eq_true hlen.2
          simp only [Option.some.injEq] at hr
          subst hr
          have ha : l = sbox := ha
          subst ha
          obtain ⟨ρc, hρc⟩ : ∃ ρc : Nat → Loc, ρc = fun i => if i = 0 then ⟨(ρ bid).a, widths bb.c⟩ else ⟨(ρ id).a, widths (.p bid 0 :: rest)⟩ := ⟨_, rfl⟩
          have h0 : ρc 0 = ⟨(ρ bid).a, widths bb.c⟩ := by rw [hρc]; rfl
          have h1 : ρc 1 = ⟨(ρ id).a, widths (.p bid 0 :: rest)⟩ := by rw [hρc]; rfl
          have hH : HR ρc (· < 2) w.heap.size [] (look (bHp (g2 ks))) w := by
            refine hr_ros hG fun i b' hb' => ?_
            unfold bHp at hb'
            rw [look_cons, look_cons] at hb'
            by_cases hi : 0 = i
            · subst hi
              rw [if_pos rfl] at hb'
              injection hb' with hb'
              subst hb'
              exact ⟨rfl, by omega, fun s hs => (by simp at hs; subst hs; trivial), bid, bb, hbb, h0, by rw [intsOf_spec ρ _ _ hl, segsVals_one]; rfl⟩
            · rw [if_neg hi] at hb'
              by_cases hi1 : 1 = i
              · subst hi1
                rw [if_pos rfl] at hb'
                injection hb' with hb'
                subst hb'
                refine ⟨rfl, by omega, fun s hs => ?_, id, _, hb, h1, ?_⟩
                · simp only [List.mem_cons, List.not_mem_nil, or_false] at hs
                  rcases hs with rfl | rfl
                  · exact (show (0 : Nat) < 2 by omega)
                  · trivial
                · show segsVals ρc [.p 0 0, .arr .u8 (keyL 240 (g2 ks))] = segsVals ρ (.p bid 0 :: rest)
                  rw [segsVals_cons, segsVals_one, segsVals_cons, intsOf_spec ρ _ _ hks, keyL_g2 hk]
                  simp only [Seg.vals, Seg.conc, h0]
              · rw [if_neg hi1] at hb'
                cases hb'
          obtain ⟨c, hc⟩ : ∃ c, Try.f13.body = some c := Option.isSome_iff_exists.1 (by kernel_rfl)
          have hcall := reach_val tyT_ok Try.func13 hc (avs := bArgs (g2 bs)) (.inr rfl) (b_reach (g2 ks) (g2 bs) hc) (v := .av (.one (.arr .u8 (encL ks bs)))) (by kernel_rfl) (by kernel_rfl) (by kernel_rfl) (fun s hs => by
            simp only [bArgs, List.mem_cons, List.not_mem_nil, or_false] at hs
            rcases hs with rfl | rfl
            · exact fun s hs => (by simp [AV.segs] at hs; subst hs; exact (show (1 : Nat) < 2 by omega))
            · exact fun s hs => (by simp [AV.segs] at hs; subst hs; trivial)) hH ρ
          have e : (bArgs (g2 bs)).map (SV.conc ρc) = [SV.conc ρ (.av (.one (.p id 0))), SV.conc ρ (.av b)] := by
            have e1 : SV.conc ρ (.av b) = .agg (bs.map (Value.int .u8)).toArray := by rw [conc_av, aggB_conc ρ hagg, intsOf_spec ρ _ _ hbs]
            rw [e1]
            simp only [bArgs, List.map_cons, List.map_nil, SV.conc, AV.conc, Seg.conc, h1, keyL_g2 hs]
          rw [e] at hcall
          exact ent_val hcall hG rfl rfl rfl
        · cases hr
      · cases hr
    · cases hr
  · cases hr
end Go.Proofs.Ytkoackalpcmhaaa.Am
/- The cipher: Next. Conditions: none. -/
namespace Go.Proofs.Ytkoackalpcmhaaa.Am
set_option linter.unusedVariables false
set_option linter.unusedSimpArgs false
open Go Go.RowKit
variable [GT]

omit [GT] in
noncomputable def xTodo : List AI := match Try.f16.body with
  | some c => todoOf (arun tyT [] noH [] 1000 [.code c] (start [.av (.one (.arr .u8 (keyL 16 fun _ => 0)))] 21 [] 0 []))
  | none => []
omit [GT] in
noncomputable def xX : Code := loopOf xTodo
omit [GT] in
noncomputable def xK : List AI := restOf xTodo
omit [GT] in
def xS (bf : Nat → Int) (i : Nat) : St := { tm := tmL 21 [(1, .av (.one (.p 0 0))), (2, .av (.one (.p 1 0))), (5, ofV (.int .i64 i))], hp := [(0, ⟨0, 23, [.arr .u8 (keyL 16 bf)]⟩), (1, ⟨0, 23, [.arr .u8 (List.replicate 16 0)]⟩)], nx := 2, gl := [] }
omit [GT] in
def inc (z : Int) : Int := IntKind.u8.wrap (z + 1)
omit [GT] in
def incAt (bf : Nat → Int) (i j : Nat) : Int := if j = 15 - i then inc (bf j) else bf j
omit [GT] in
def xEnd (bf : Nat → Int) : St := { tm := tmL 21 [(2, .av (.one (.p 0 0)))], hp := [(0, ⟨0, 23, [.arr .u8 (keyL 16 bf)]⟩)], nx := 1, gl := [] }
omit [GT] in
def isA (x b : Bool) : Prop := ∀ ρ : Nat → Loc, (ofV (.bool x)).conc ρ = (ofV (.bool b)).conc ρ
theorem x_start (bf : Nat → Int) {c : Code} (hc : Try.f16.body = some c) : runN tyT [] noH [] 1000 2 [] [1, 2, 5] [.code c] (start [.av (.one (.arr .u8 (keyL 16 bf)))] 21 [] 0 []) = some (.code (.loop xX) :: xK, xS bf 0, []) := by
  have : ∀ d, Try.f16.body = d → (match d with | some c => runN tyT [] noH [] 1000 2 [] [1, 2, 5] [.code c] (start [.av (.one (.arr .u8 (keyL 16 bf)))] 21 [] 0 []) | none => none) = some (.code (.loop xX) :: xK, xS bf 0, []) := by
    intro d hd
    subst hd
    kernel_rfl
  exact this _ hc
theorem x_go0 (bf : Nat → Int) (n : Nat) : runN tyT [] (atH 6 3 (isB false) noH) [] 1000 2 [] [1, 2, 5] (.code xX :: .hd n xX :: xK) (xS bf 0) = some (.hd n xX :: xK, xS (incAt bf 0) 1, [isA (inc (bf 15) != 0) false]) := by
  kernel_rfl
theorem x_stop0 (bf : Nat → Int) (n : Nat) : runN tyT [] (atH 6 3 (isB true) noH) [] 1000 0 [1] [2] (.code xX :: .hd n xX :: xK) (xS bf 0) = some ([.fin], xEnd (incAt bf 0), [isA (inc (bf 15) != 0) true]) := by
  kernel_rfl
theorem x_go1 (bf : Nat → Int) (n : Nat) : runN tyT [] (atH 6 3 (isB false) noH) [] 1000 2 [] [1, 2, 5] (.code xX :: .hd n xX :: xK) (xS bf 1) = some (.hd n xX :: xK, xS (incAt bf 1) 2, [isA (inc (bf 14) != 0) false]) := by
  kernel_rfl
theorem x_stop1 (bf : Nat → Int) (n : Nat) : runN tyT [] (atH 6 3 (isB true) noH) [] 1000 0 [1] [2] (.code xX :: .hd n xX :: xK) (xS bf 1) = some ([.fin], xEnd (incAt bf 1), [isA (inc (bf 14) != 0) true]) := by
  kernel_rfl
theorem x_go2 (bf : Nat → Int) (n : Nat) : runN tyT [] (atH 6 3 (isB false) noH) [] 1000 2 [] [1, 2, 5] (.code xX :: .hd n xX :: xK) (xS bf 2) = some (.hd n xX :: xK, xS (incAt bf 2) 3, [isA (inc (bf 13) != 0) false]) := by
  kernel_rfl
theorem x_stop2 (bf : Nat → Int) (n : Nat) : runN tyT [] (atH 6 3 (isB true) noH) [] 1000 0 [1] [2] (.code xX :: .hd n xX :: xK) (xS bf 2) = some ([.fin], xEnd (incAt bf 2), [isA (inc (bf 13) != 0) true]) := by
  kernel_rfl
theorem x_go3 (bf : Nat → Int) (n : Nat) : runN tyT [] (atH 6 3 (isB false) noH) [] 1000 2 [] [1, 2, 5] (.code xX :: .hd n xX :: xK) (xS bf 3) = some (.hd n xX :: xK, xS (incAt bf 3) 4, [isA (inc (bf 12) != 0) false]) := by
  kernel_rfl
theorem x_stop3 (bf : Nat → Int) (n : Nat) : runN tyT [] (atH 6 3 (isB true) noH) [] 1000 0 [1] [2] (.code xX :: .hd n xX :: xK) (xS bf 3) = some ([.fin], xEnd (incAt bf 3), [isA (inc (bf 12) != 0) true]) := by
  kernel_rfl
theorem x_go4 (bf : Nat → Int) (n : Nat) : runN tyT [] (atH 6 3 (isB false) noH) [] 1000 2 [] [1, 2, 5] (.code xX :: .hd n xX :: xK) (xS bf 4) = some (.hd n xX :: xK, xS (incAt bf 4) 5, [isA (inc (bf 11) != 0) false]) := by
  kernel_rfl
theorem x_stop4 (bf : Nat → Int) (n : Nat) : runN tyT [] (atH 6 3 (isB true) noH) [] 1000 0 [1] [2] (.code xX :: .hd n xX :: xK) (xS bf 4) = some ([.fin], xEnd (incAt bf 4), [isA (inc (bf 11) != 0) true]) := by
  kernel_rfl
theorem x_go5 (bf : Nat → Int) (n : Nat) : runN tyT [] (atH 6 3 (isB false) noH) [] 1000 2 [] [1, 2, 5] (.code xX :: .hd n xX :: xK) (xS bf 5) = some (.hd n xX :: xK, xS (incAt bf 5) 6, [isA (inc (bf 10) != 0) false]) := by
  kernel_rfl
theorem x_stop5 (bf : Nat → Int) (n : Nat) : runN tyT [] (atH 6 3 (isB true) noH) [] 1000 0 [1] [2] (.code xX :: .hd n xX :: xK) (xS bf 5) = some ([.fin], xEnd (incAt bf 5), [isA (inc (bf 10) != 0) true]) := by
  kernel_rfl
theorem x_go6 (bf : Nat → Int) (n : Nat) : runN tyT [] (atH 6 3 (isB false) noH) [] 1000 2 [] [1, 2, 5] (.code xX :: .hd n xX :: xK) (xS bf 6) = some (.hd n xX :: xK, xS (incAt bf 6) 7, [isA (inc (bf 9) != 0) false]) := by
  kernel_rfl
theorem x_stop6 (bf : Nat → Int) (n : Nat) : runN tyT [] (atH 6 3 (isB true) noH) [] 1000 0 [1] [2] (.code xX :: .hd n xX :: xK) (xS bf 6) = some ([.fin], xEnd (incAt bf 6), [isA (inc (bf 9) != 0) true]) := by
  kernel_rfl
theorem x_go7 (bf : Nat → Int) (n : Nat) : runN tyT [] (atH 6 3 (isB false) noH) [] 1000 2 [] [1, 2, 5] (.code xX :: .hd n xX :: xK) (xS bf 7) = some (.hd n xX :: xK, xS (incAt bf 7) 8, [isA (inc (bf 8) != 0) false]) := by
  kernel_rfl
theorem x_stop7 (bf : Nat → Int) (n : Nat) : runN tyT [] (atH 6 3 (isB true) noH) [] 1000 0 [1] [2] (.code xX :: .hd n xX :: xK) (xS bf 7) = some ([.fin], xEnd (incAt bf 7), [isA (inc (bf 8) != 0) true]) := by
  kernel_rfl
theorem x_go8 (bf : Nat → Int) (n : Nat) : runN tyT [] (atH 6 3 (isB false) noH) [] 1000 2 [] [1, 2, 5] (.code xX :: .hd n xX :: xK) (xS bf 8) = some (.hd n xX :: xK, xS (incAt bf 8) 9, [isA (inc (bf 7) != 0) false]) := by
  kernel_rfl
theorem x_stop8 (bf : Nat → Int) (n : Nat) : runN tyT [] (atH 6 3 (isB true) noH) [] 1000 0 [1] [2] (.code xX :: .hd n xX :: xK) (xS bf 8) = some ([.fin], xEnd (incAt bf 8), [isA (inc (bf 7) != 0) true]) := by
  kernel_rfl
theorem x_go9 (bf : Nat → Int) (n : Nat) : runN tyT [] (atH 6 3 (isB false) noH) [] 1000 2 [] [1, 2, 5] (.code xX :: .hd n xX :: xK) (xS bf 9) = some (.hd n xX :: xK, xS (incAt bf 9) 10, [isA (inc (bf 6) != 0) false]) := by
  kernel_rfl
theorem x_stop9 (bf : Nat → Int) (n : Nat) : runN tyT [] (atH 6 3 (isB true) noH) [] 1000 0 [1] [2] (.code xX :: .hd n xX :: xK) (xS bf 9) = some ([.fin], xEnd (incAt bf 9), [isA (inc (bf 6) != 0) true]) := by
  kernel_rfl
theorem x_go10 (bf : Nat → Int) (n : Nat) : runN tyT [] (atH 6 3 (isB false) noH) [] 1000 2 [] [1, 2, 5] (.code xX :: .hd n xX :: xK) (xS bf 10) = some (.hd n xX :: xK, xS (incAt bf 10) 11, [isA (inc (bf 5) != 0) false]) := by
  kernel_rfl
theorem x_stop10 (bf : Nat → Int) (n : Nat) : runN tyT [] (atH 6 3 (isB true) noH) [] 1000 0 [1] [2] (.code xX :: .hd n xX :: xK) (xS bf 10) = some ([.fin], xEnd (incAt bf 10), [isA (inc (bf 5) != 0) true]) := by
  kernel_rfl
theorem x_go11 (bf : Nat → Int) (n : Nat) : runN tyT [] (atH 6 3 (isB false) noH) [] 1000 2 [] [1, 2, 5] (.code xX :: .hd n xX :: xK) (xS bf 11) = some (.hd n xX :: xK, xS (incAt bf 11) 12, [isA (inc (bf 4) != 0) false]) := by
  kernel_rfl
theorem x_stop11 (bf : Nat → Int) (n : Nat) : runN tyT [] (atH 6 3 (isB true) noH) [] 1000 0 [1] [2] (.code xX :: .hd n xX :: xK) (xS bf 11) = some ([.fin], xEnd (incAt bf 11), [isA (inc (bf 4) != 0) true]) := by
  kernel_rfl
theorem x_go12 (bf : Nat → Int) (n : Nat) : runN tyT [] (atH 6 3 (isB false) noH) [] 1000 2 [] [1, 2, 5] (.code xX :: .hd n xX :: xK) (xS bf 12) = some (.hd n xX :: xK, xS (incAt bf 12) 13, [isA (inc (bf 3) != 0) false]) := by
  kernel_rfl
theorem x_stop12 (bf : Nat → Int) (n : Nat) : runN tyT [] (atH 6 3 (isB true) noH) [] 1000 0 [1] [2] (.code xX :: .hd n xX :: xK) (xS bf 12) = some ([.fin], xEnd (incAt bf 12), [isA (inc (bf 3) != 0) true]) := by
  kernel_rfl
theorem x_go13 (bf : Nat → Int) (n : Nat) : runN tyT [] (atH 6 3 (isB false) noH) [] 1000 2 [] [1, 2, 5] (.code xX :: .hd n xX :: xK) (xS bf 13) = some (.hd n xX :: xK, xS (incAt bf 13) 14, [isA (inc (bf 2) != 0) false]) := by
  kernel_rfl
theorem x_stop13 (bf : Nat → Int) (n : Nat) : runN tyT [] (atH 6 3 (isB true) noH) [] 1000 0 [1] [2] (.code xX :: .hd n xX :: xK) (xS bf 13) = some ([.fin], xEnd (incAt bf 13), [isA (inc (bf 2) != 0) true]) := by
  kernel_rfl
theorem x_go14 (bf : Nat → Int) (n : Nat) : runN tyT [] (atH 6 3 (isB false) noH) [] 1000 2 [] [1, 2, 5] (.code xX :: .hd n xX :: xK) (xS bf 14) = some (.hd n xX :: xK, xS (incAt bf 14) 15, [isA (inc (bf 1) != 0) false]) := by
  kernel_rfl
theorem x_stop14 (bf : Nat → Int) (n : Nat) : runN tyT [] (atH 6 3 (isB true) noH) [] 1000 0 [1] [2] (.code xX :: .hd n xX :: xK) (xS bf 14) = some ([.fin], xEnd (incAt bf 14), [isA (inc (bf 1) != 0) true]) := by
  kernel_rfl
theorem x_go15 (bf : Nat → Int) (n : Nat) : runN tyT [] (atH 6 3 (isB false) noH) [] 1000 2 [] [1, 2, 5] (.code xX :: .hd n xX :: xK) (xS bf 15) = some (.hd n xX :: xK, xS (incAt bf 15) 16, [isA (inc (bf 0) != 0) false]) := by
  kernel_rfl
theorem x_stop15 (bf : Nat → Int) (n : Nat) : runN tyT [] (atH 6 3 (isB true) noH) [] 1000 0 [1] [2] (.code xX :: .hd n xX :: xK) (xS bf 15) = some ([.fin], xEnd (incAt bf 15), [isA (inc (bf 0) != 0) true]) := by
  kernel_rfl
theorem x_end (bf : Nat → Int) (n : Nat) : runN tyT [] noH [] 1000 0 [1] [2] (.code xX :: .hd n xX :: xK) (xS bf 16) = some ([.fin], xEnd bf, []) := by
  kernel_rfl
theorem nil_ok : OOK Try.prog [] := ook_of (l := []) trivial
theorem x_go (bf : Nat → Int) (n : Nat) : ∀ i, i < 16 → (inc (bf (15 - i)) != 0) = false → Reaches Try.prog 0 (.hd (n + 1) xX :: xK) (xS bf i) (.hd n xX :: xK) (xS (incAt bf i) (i + 1))
  | 0, _, h => Reaches.round (reach_run tyT_ok nil_ok mixed_ (x_go0 bf n) ⟨fun ρ => by rw [show (inc (bf 15) != 0) = false from h], trivial⟩ rfl)
  | 1, _, h => Reaches.round (reach_run tyT_ok nil_ok mixed_ (x_go1 bf n) ⟨fun ρ => by rw [show (inc (bf 14) != 0) = false from h], trivial⟩ rfl)
  | 2, _, h => Reaches.round (reach_run tyT_ok nil_ok mixed_ (x_go2 bf n) ⟨fun ρ => by rw [show (inc (bf 13) != 0) = false from h], trivial⟩ rfl)
  | 3, _, h => Reaches.round (reach_run tyT_ok nil_ok mixed_ (x_go3 bf n) ⟨fun ρ => by rw [show (inc (bf 12) != 0) = false from h], trivial⟩ rfl)
  | 4, _, h => Reaches.round (reach_run tyT_ok nil_ok mixed_ (x_go4 bf n) ⟨fun ρ => by rw [show (inc (bf 11) != 0) = false from h], trivial⟩ rfl)
  | 5, _, h => Reaches.round (reach_run tyT_ok nil_ok mixed_ (x_go5 bf n) ⟨fun ρ => by rw [show (inc (bf 10) != 0) = false from h], trivial⟩ rfl)
  | 6, _, h => Reaches.round (reach_run tyT_ok nil_ok mixed_ (x_go6 bf n) ⟨fun ρ => by rw [show (inc (bf 9) != 0) = false from h], trivial⟩ rfl)
  | 7, _, h => Reaches.round (reach_run tyT_ok nil_ok mixed_ (x_go7 bf n) ⟨fun ρ => by rw [show (inc (bf 8) != 0) = false from h], trivial⟩ rfl)
  | 8, _, h => Reaches.round (reach_run tyT_ok nil_ok mixed_ (x_go8 bf n) ⟨fun ρ => by rw [show (inc (bf 7) != 0) = false from h], trivial⟩ rfl)
  | 9, _, h => Reaches.round (reach_run tyT_ok nil_ok mixed_ (x_go9 bf n) ⟨fun ρ => by rw [show (inc (bf 6) != 0) = false from h], trivial⟩ rfl)
  | 10, _, h => Reaches.round (reach_run tyT_ok nil_ok mixed_ (x_go10 bf n) ⟨fun ρ => by rw [show (inc (bf 5) != 0) = false from h], trivial⟩ rfl)
  | 11, _, h => Reaches.round (reach_run tyT_ok nil_ok mixed_ (x_go11 bf n) ⟨fun ρ => by rw [show (inc (bf 4) != 0) = false from h], trivial⟩ rfl)
  | 12, _, h => Reaches.round (reach_run tyT_ok nil_ok mixed_ (x_go12 bf n) ⟨fun ρ => by rw [show (inc (bf 3) != 0) = false from h], trivial⟩ rfl)
  | 13, _, h => Reaches.round (reach_run tyT_ok nil_ok mixed_ (x_go13 bf n) ⟨fun ρ => by rw [show (inc (bf 2) != 0) = false from h], trivial⟩ rfl)
  | 14, _, h => Reaches.round (reach_run tyT_ok nil_ok mixed_ (x_go14 bf n) ⟨fun ρ => by rw [show (inc (bf 1) != 0) = false from h], trivial⟩ rfl)
  | 15, _, h => Reaches.round (reach_run tyT_ok nil_ok mixed_ (x_go15 bf n) ⟨fun ρ => by rw [show (inc (bf 0) != 0) = false from h], trivial⟩ rfl)
  | i + 16, h, _ => by omega
theorem x_stop (bf : Nat → Int) (n : Nat) : ∀ i, i < 16 → (inc (bf (15 - i)) != 0) = true → Reaches Try.prog 0 (.hd (n + 1) xX :: xK) (xS bf i) [.fin] (xEnd (incAt bf i))
  | 0, _, h => Reaches.round (reach_run tyT_ok nil_ok mixed_ (x_stop0 bf n) ⟨fun ρ => by rw [show (inc (bf 15) != 0) = true from h], trivial⟩ rfl)
  | 1, _, h => Reaches.round (reach_run tyT_ok nil_ok mixed_ (x_stop1 bf n) ⟨fun ρ => by rw [show (inc (bf 14) != 0) = true from h], trivial⟩ rfl)
  | 2, _, h => Reaches.round (reach_run tyT_ok nil_ok mixed_ (x_stop2 bf n) ⟨fun ρ => by rw [show (inc (bf 13) != 0) = true from h], trivial⟩ rfl)
  | 3, _, h => Reaches.round (reach_run tyT_ok nil_ok mixed_ (x_stop3 bf n) ⟨fun ρ => by rw [show (inc (bf 12) != 0) = true from h], trivial⟩ rfl)
  | 4, _, h => Reaches.round (reach_run tyT_ok nil_ok mixed_ (x_stop4 bf n) ⟨fun ρ => by rw [show (inc (bf 11) != 0) = true from h], trivial⟩ rfl)
  | 5, _, h => Reaches.round (reach_run tyT_ok nil_ok mixed_ (x_stop5 bf n) ⟨fun ρ => by rw [show (inc (bf 10) != 0) = true from h], trivial⟩ rfl)
  | 6, _, h => Reaches.round (reach_run tyT_ok nil_ok mixed_ (x_stop6 bf n) ⟨fun ρ => by rw [show (inc (bf 9) != 0) = true from h], trivial⟩ rfl)
  | 7, _, h => Reaches.round (reach_run tyT_ok nil_ok mixed_ (x_stop7 bf n) ⟨fun ρ => by rw [show (inc (bf 8) != 0) = true from h], trivial⟩ rfl)
  | 8, _, h => Reaches.round (reach_run tyT_ok nil_ok mixed_ (x_stop8 bf n) ⟨fun ρ => by rw [show (inc (bf 7) != 0) = true from h], trivial⟩ rfl)
  | 9, _, h => Reaches.round (reach_run tyT_ok nil_ok mixed_ (x_stop9 bf n) ⟨fun ρ => by rw [show (inc (bf 6) != 0) = true from h], trivial⟩ rfl)
  | 10, _, h => Reaches.round (reach_run tyT_ok nil_ok mixed_ (x_stop10 bf n) ⟨fun ρ => by rw [show (inc (bf 5) != 0) = true from h], trivial⟩ rfl)
  | 11, _, h => Reaches.round (reach_run tyT_ok nil_ok mixed_ (x_stop11 bf n) ⟨fun ρ => by rw [show (inc (bf 4) != 0) = true from h], trivial⟩ rfl)
  | 12, _, h => Reaches.round (reach_run tyT_ok nil_ok mixed_ (x_stop12 bf n) ⟨fun ρ => by rw [show (inc (bf 3) != 0) = true from h], trivial⟩ rfl)
  | 13, _, h => Reaches.round (reach_run tyT_ok nil_ok mixed_ (x_stop13 bf n) ⟨fun ρ => by rw [show (inc (bf 2) != 0) = true from h], trivial⟩ rfl)
  | 14, _, h => Reaches.round (reach_run tyT_ok nil_ok mixed_ (x_stop14 bf n) ⟨fun ρ => by rw [show (inc (bf 1) != 0) = true from h], trivial⟩ rfl)
  | 15, _, h => Reaches.round (reach_run tyT_ok nil_ok mixed_ (x_stop15 bf n) ⟨fun ρ => by rw [show (inc (bf 0) != 0) = true from h], trivial⟩ rfl)
  | i + 16, h, _ => by omega
omit [GT] in
/-- One more, from byte 15 - i on. -/
def nextG : Nat → Nat → (Nat → Int) → (Nat → Int)
  | 0, _, bf => bf
  | n + 1, i, bf => if (inc (bf (15 - i)) != 0) = true then incAt bf i else nextG n (i + 1) (incAt bf i)
theorem x_rounds : ∀ (n i : Nat) (bf : Nat → Int), n + i = 16 → Reaches Try.prog 0 (.hd (n + 1) xX :: xK) (xS bf i) [.fin] (xEnd (nextG n i bf))
  | 0, i, bf, h => by
    have : i = 16 := by omega
    subst this
    exact Reaches.round (reach_run tyT_ok nil_ok mixed_ (x_end bf 0) trivial rfl)
  | n + 1, i, bf, h => by
    unfold nextG
    cases hc : (inc (bf (15 - i)) != 0) with
    | true => rw [if_pos rfl]; exact x_stop bf (n + 1) i (by omega) hc
    | false =>
      rw [if_neg (by decide)]
      exact (x_go bf (n + 1) i (by omega) hc).trans (x_rounds n (i + 1) (incAt bf i) (by omega))
theorem x_reach (bf : Nat → Int) {c : Code} (hc : Try.f16.body = some c) : Reaches Try.prog 0 [.code c] (start [.av (.one (.arr .u8 (keyL 16 bf)))] 21 [] 0 []) [.fin] (xEnd (nextG 16 0 bf)) :=
  (reach_run tyT_ok nil_ok mixed_ (x_start bf hc) trivial rfl).trans (Reaches.loop 17 (x_rounds 16 0 bf rfl))
omit [GT] in
def nextL (bs : List Int) : List Int := keyL 16 (nextG 16 0 (g2 bs))
omit [GT] in
/-- A function of 16 bytes to 16 bytes. -/
def e16 (F : List Int → List Int) : Ent := fun args _ _ => match args with
  | [.av b] => match intsOf .u8 b.segs, aggB b with
    | some bs, true => match Nat.beq bs.length 16 with
      | true => some { val := .av (.one (.arr .u8 (F bs))) }
      | false => none
    | _, _ => none
  | _ => none
theorem ok_e16 {f : FuncId} {fn : Func} {F : List Int → List Int} (hf : Try.prog.funcs[f]? = some fn) (h2 : (fn.name == "runtime.NumGoroutine") = false) (h3 : fn.body.isSome = true) (h : ∀ (bs : List Int), bs.length = 16 → ∀ (ρ : Nat → Loc) (w : World), GWok w.heap.size [] w → Calls Try.prog f ([SV.av (.one (.arr .u8 bs))].map (SV.conc ρ)).toArray w fun e w' => e = .returned (SV.conc ρ (.av (.one (.arr .u8 (F bs))))) ∧ Below w.heap.size w w') : EntOK Try.prog f (e16 F) := by
  refine ⟨⟨fn, hf, h2, h3⟩, fun args G base res hr ha ρ D N M w hG hin hfr => ?_⟩
  unfold e16 at hr
  split at hr
  · rename_i b
    split at hr
    · rename_i bs hbs hagg
      split at hr
      · rename_i hl
        simp only [Option.some.injEq] at hr
        subst hr
        have := h bs (Nat.eq_of_beq_eq_true hl) ρ w hG.gwc
        have e1 : SV.conc ρ (.av b) = SV.conc ρ (.av (.one (.arr .u8 bs))) := by
          rw [conc_av, aggB_conc ρ hagg, intsOf_spec ρ _ _ hbs]
          rfl
        simp only [List.map_cons, List.map_nil] at this ⊢
        rw [e1]
        exact ent_val this hG rfl rfl rfl
      · cases hr
    · cases hr
  · cases hr
theorem hr_none {w : World} (hgw : GWok w.heap.size [] w) : HR (fun _ => ⟨none, 0⟩) (· < 0) w.heap.size [] (look []) w := ⟨Nat.le_refl _, fun _ _ h => (by cases h), fun _ _ _ h => (by cases h), fun _ _ _ h => (by cases h), fun _ _ _ _ _ _ h => (by cases h), hgw⟩
theorem next_ent : EntOK Try.prog 16 (e16 nextL) := by
  refine ok_e16 Try.func16 (by kernel_rfl) (by kernel_rfl) fun bs hl ρ w hgw => ?_
  obtain ⟨c, hc⟩ : ∃ c, Try.f16.body = some c := Option.isSome_iff_exists.1 (by kernel_rfl)
  have := reach_val tyT_ok Try.func16 hc (avs := [.av (.one (.arr .u8 (keyL 16 (g2 bs))))]) (.inr rfl) (x_reach (g2 bs) hc) (v := .av (.one (.arr .u8 (nextL bs)))) (by kernel_rfl) (by kernel_rfl) (by kernel_rfl) (fun s hs => by
    simp only [List.mem_cons, List.not_mem_nil, or_false] at hs
    subst hs
    exact fun s hs => (by simp [AV.segs] at hs; subst hs; trivial)) (hr_none hgw) ρ
  rw [keyL_g2 hl] at this
  exact this
end Go.Proofs.Ytkoackalpcmhaaa.Am
