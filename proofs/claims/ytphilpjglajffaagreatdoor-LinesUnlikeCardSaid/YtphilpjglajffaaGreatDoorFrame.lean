/- What the rows' listed variables give, and a world in which they lie: for every row of this seat. -/
import Derived.Test.YtphilpjglajffaaGreatDoorRows
import Derived.WalkKit
import Derived.ProofKit
import Derived.OpenShut
import Derived.ShutString
import Derived.Deep.DeepHandedRow
import Derived.Deep.DeepWitnessRowRef
import Derived.Lib.LaidTab
import Derived.Stop.LaidErr
import Derived.Test.YtphilpjglajffaaGreatDoorShelf
namespace Go.Proofs.YtphilpjglajffaaGreatDoor.Lin
open Go.ChangeShapes Go.WideShapes Go.ChangeAt Go.RowKit

theorem own : ownKnob Tryz.prog.godebug = none := by kernel_rfl
theorem star : "*" ++ "errors.errorString" = "*errors.errorString" := by decide
theorem row160 (u : TypeId) (h : Tryz.prog.typeName? 3 u = some "*errors.errorString") : u = 160 :=
  typeName_ptr_named (nm := "errors.errorString") (by rw [star]; kernel_rfl) (by kernel_rfl) (by decide) u (by rw [star]; exact h)
theorem cells162 : Tryz.prog.cellsOf 162 = 1 := by kernel_rfl
theorem cells9 : Tryz.prog.cellsOf 9 = 1 := by kernel_rfl
theorem gErrSyntax : Tryz.prog.globalNamed "strconv.ErrSyntax" = some 2 := by kernel_rfl
theorem gErrSyntaxType : (Tryz.prog.globals[2]?).map (·.type) = some 74 := by kernel_rfl
theorem gPow : Tryz.prog.globalNamed "internal/strconv.uint64pow10" = some 1 := by kernel_rfl
theorem gPowType : (Tryz.prog.globals[1]?).map (·.type) = some 130 := by kernel_rfl
theorem cells130 : Tryz.prog.cellsOf 130 = 20 := by kernel_rfl
theorem cells110 : Tryz.prog.cellsOf 110 = 1 := by kernel_rfl

/-- what the walks ask of the world at the start -/
def Laid (W : World) : Prop := (∃ p, W.cell? ⟨2, 0, none⟩ = some (.iface 160 p)) ∧ 2 < W.heap.size ∧ Lib.TabIs Tryz.prog W "internal/strconv.uint64pow10" .u64 Lib.pow10Tab

theorem laid_of {W : World} (h : laidMetH Tryz.prog Rows.linesHexRow.laid W) : Laid W := by
  have h0 : laidMet Tryz.prog _ W := h
  have h1 := h0.tail.tail
  have h5 := h1.tail.tail.tail
  obtain ⟨a, s, hv, _, _, _⟩ := laid_sentinel h5 gErrSyntax gErrSyntaxType Tryz.underlying74 row160 Tryz.underlying160 Tryz.underlying162 rfl rfl Tryz.underlying9 cells162 cells9
  have hc : W.cell? ⟨2, 0, none⟩ = some (.iface 160 (.pointer (some a))) := by simpa using World.var?_cell gErrSyntax hv 0
  refine ⟨⟨_, hc⟩, World.block_lt_of_cell? _ _ hc, ?_⟩
  exact Lib.tabIs_of_head gPow gPowType Tryz.underlying130 Tryz.underlying110 cells110 cells130 h1

/-- A WORLD FOR THE WITNESS -/
def rangeS : ByteArray := ⟨#[118, 97, 108, 117, 101, 32, 111, 117, 116, 32, 111, 102, 32, 114, 97, 110, 103, 101]⟩
def syntaxS : ByteArray := ⟨#[105, 110, 118, 97, 108, 105, 100, 32, 115, 121, 110, 116, 97, 120]⟩
noncomputable def low : Nat := (World.holding Tryz.prog default ⟨#[], #[], []⟩).heap.size
def putCells (cs : Array Value) (h : Array Obj) (g : Nat) : Array Obj := h.modify g fun
  | .cells _ t frozen => .cells cs t frozen
  | o => o
def ints (k : IntKind) (l : List Nat) : Array Value := (l.map fun n => Value.int k (Int.ofNat n)).toArray
def de32 : List Nat := [0, 1, 28, 2, 29, 14, 24, 3, 30, 22, 20, 15, 25, 17, 4, 8, 31, 27, 13, 23, 21, 19, 16, 7, 26, 12, 18, 6, 11, 5, 10, 9]
def de64 : List Nat := [0, 1, 56, 2, 57, 49, 28, 3, 61, 58, 42, 50, 38, 29, 17, 4, 62, 47, 59, 36, 45, 43, 51, 22, 53, 39, 33, 30, 24, 18, 12, 5, 63, 55, 48, 27, 60, 41, 37, 16, 46, 35, 44, 21, 52, 32, 23, 11, 54, 26, 40, 15, 34, 20, 31, 10, 25, 14, 19, 9, 13, 8, 7, 6]
def pows : List Nat := [1, 10, 100, 1000, 10000, 100000, 1000000, 10000000, 100000000, 1000000000, 10000000000, 100000000000, 1000000000000, 10000000000000, 100000000000000, 1000000000000000, 10000000000000000, 100000000000000000, 1000000000000000000, 10000000000000000000]
def accs : List Nat := [128, 191, 160, 191, 128, 159, 144, 191, 128, 143, 0, 0, 0, 0, 0, 0, 0, 0, 0, 0, 0, 0, 0, 0, 0, 0, 0, 0, 0, 0, 0, 0]
noncomputable def laidWorld (os : Os) : World :=
  let w0 := World.holding Tryz.prog os ⟨#[.cells #[.string rangeS] 162, .cells #[.string syntaxS] 162], #[], []⟩
  { w0 with heap := putCells (ints .u8 de32) (putCells (ints .u8 de64) (putCells (ints .u64 pows) (putCells (ints .u8 accs) (putCells #[.iface 160 (.pointer (some ⟨low, 0, none⟩))]
      (putCells #[.iface 160 (.pointer (some ⟨low + 1, 0, none⟩))] (putCells (ints .u8 Go.Pinned.utf8FirstZ) w0.heap 4) 2) 3) 5) 1) 7) 6 }

theorem laid_met (os : Os) (args : Array Value) : laidMet Tryz.prog Rows.linesHexRow.laid ((laidWorld os).forCall (fun _ _ => 0) ⟨#[], args, []⟩).memory :=
  laidMet_of_run' 8 (by kernel_rfl) (by kernel_rfl)
theorem world_vars (os : Os) (args : Array Value) : ((laidWorld os).forCall (fun _ _ => 0) ⟨#[], args, []⟩).variablesRefB Tryz.prog = true := by kernel_rfl
theorem world_rest (os : Os) (args : Array Value) : (((laidWorld os).forCall (fun _ _ => 0) ⟨#[], args, []⟩).heap.toList.drop Tryz.prog.globals.size).take ((begin Tryz.prog (fun _ _ => 0) default).world.heap.size - Tryz.prog.globals.size) =
      (begin Tryz.prog (fun _ _ => 0) default).world.heap.toList.drop Tryz.prog.globals.size := by kernel_rfl
end Go.Proofs.YtphilpjglajffaaGreatDoor.Lin
