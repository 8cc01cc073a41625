/-
  Texts of this seat, laid one behind the other: ScAl. Conditions: none.
-/
import Derived.Test.YtbfolflejhkehaaGreatDoorZl3
import Derived.Laws.Externs
section
set_option maxRecDepth 1000000
namespace Go.Proofs.YtbfolflejhkehaaGreatDoor
open Go Go.Vc Go.Ce Go.Proofs

theorem xCount : ExtAt Tryz.prog 83 Extern.BytealgCount.count := fun args w => run_callFunc_extern Tryz.func83 (by kernel_rfl) (by kernel_rfl) (by kernel_rfl) (by kernel_rfl) args w
theorem xIndex : ExtAt Tryz.prog 206 Extern.BytealgIndexByte.indexByte := fun args w => run_callFunc_extern Tryz.func206 (by kernel_rfl) (by kernel_rfl) (by kernel_rfl) (by kernel_rfl) args w
theorem xSame : ExtAt Tryz.prog 186 Extern.AbiNoEscape.same := fun args w => run_callFunc_extern Tryz.func186 (by kernel_rfl) (by kernel_rfl) (by kernel_rfl) (by kernel_rfl) args w
theorem hmOk : Tryz.prog.follows .mixedOrders = true := by kernel_rfl
def ext : FuncId → List SV → Option SV := ext3 83 206 186
theorem extOk : ExtOk Tryz.prog ext := ext3_ok xCount xIndex xSame

def nm0 : List Nat := [1, 176, 55, 44, 235, 62, 170, 56, 112]
def nm1 : List Nat := [1, 35, 71, 204, 149, 189, 0, 93, 147]
def id0 : SV := .agg [.v (.int .u8 1), .v (.int .u8 176), .v (.int .u8 55), .v (.int .u8 44), .v (.int .u8 235), .v (.int .u8 62), .v (.int .u8 170), .v (.int .u8 56), .v (.int .u8 112), .v (.int .u8 0), .v (.int .u8 0), .v (.int .u8 0), .v (.int .u8 0), .v (.int .u8 0), .v (.int .u8 0), .v (.int .u8 0), .v (.int .u8 0), .v (.int .u8 0), .v (.int .u8 0), .v (.int .u8 0), .v (.int .u8 0), .v (.int .u8 0), .v (.int .u8 0), .v (.int .u8 0), .v (.int .u8 0), .v (.int .u8 0), .v (.int .u8 0), .v (.int .u8 0), .v (.int .u8 0), .v (.int .u8 0), .v (.int .u8 0), .v (.int .u8 0), .v (.int .u8 0)]
def id1 : SV := .agg [.v (.int .u8 1), .v (.int .u8 35), .v (.int .u8 71), .v (.int .u8 204), .v (.int .u8 149), .v (.int .u8 189), .v (.int .u8 0), .v (.int .u8 93), .v (.int .u8 147), .v (.int .u8 0), .v (.int .u8 0), .v (.int .u8 0), .v (.int .u8 0), .v (.int .u8 0), .v (.int .u8 0), .v (.int .u8 0), .v (.int .u8 0), .v (.int .u8 0), .v (.int .u8 0), .v (.int .u8 0), .v (.int .u8 0), .v (.int .u8 0), .v (.int .u8 0), .v (.int .u8 0), .v (.int .u8 0), .v (.int .u8 0), .v (.int .u8 0), .v (.int .u8 0), .v (.int .u8 0), .v (.int .u8 0), .v (.int .u8 0), .v (.int .u8 0), .v (.int .u8 0)]
def rows : List (Nat × List SV × SV) := [(132, [id0], .str nm0), (132, [id1], .str nm1)]
theorem text0 : (runFt Tryz.prog ext noPk (tbL tabs) 3000 200 132 [id0] ⟨0, .nil⟩).map (·.1) = some (.str nm0) := by kernel_rfl
theorem text1 : (runFt Tryz.prog ext noPk (tbL tabs) 3000 200 132 [id1] ⟨0, .nil⟩).map (·.1) = some (.str nm1) := by kernel_rfl
theorem rowsOk : ∀ r ∈ rows, RowOk Tryz.prog r := by
  intro r hr
  simp only [rows, List.mem_cons, List.not_mem_nil, or_false] at hr
  rcases hr with rfl | rfl
  · exact rowOk_of hmOk extOk tbOk (by rfl) (by rfl) text0
  · exact rowOk_of hmOk extOk tbOk (by rfl) (by rfl) text1
def pk0 : PK := pkC rows (pkL [50, 51] 214 (.int .u64 16) (.int .i64 4))
theorem alive_run : (runFt Tryz.prog ext pk0 (tbL tabs) 3000 200 5 [] ⟨0, .nil⟩).map (·.1) = some (.v (.bool true)) := by kernel_rfl
/-- THE CALL OF alive: true, at each heap at which the two maps.Clone and TrailingZeros of 16 do as they should. -/
theorem alive_HC {h : Heap} (c1 : CloneAt Tryz.prog 50) (c2 : CloneAt Tryz.prog 51)
    (htz : ∀ h', Still h h' → HC Tryz.prog 214 #[.int .u64 16] h' fun u h2 => u = .int .i64 4 ∧ h2 = h') : HC Tryz.prog 5 #[] h fun w h' => w = .bool true ∧ Keep h.size h h' :=
  HC_of_run (us := []) hmOk extOk (pkC_ok (pkL_ok rfl rfl (fun f hf => by
    simp only [List.mem_cons, List.not_mem_nil, or_false] at hf
    rcases hf with rfl | rfl
    · exact c1
    · exact c2) htz) rowsOk) tbOk alive_run rfl fun m => .inl rfl
end Go.Proofs.YtbfolflejhkehaaGreatDoor
end
