/-
  Rows of texts; noughts, made; looks at elements. Conditions: none.
-/
import Derived.Test.YtembbemljejjbaaDk1
import Derived.Test.YtembbemljejjbaaVcV
import Derived.Test.YtembbemljejjbaaVcW
set_option linter.unusedVariables false
set_option linter.unusedSimpArgs false
set_option maxRecDepth 100000
namespace Go.Proofs.Ytembbemljejjbaa
open Go Go.Vc Go.Proofs Go.Dk

theorem scSs : scT Try.prog 37 = true := by kernel_rfl
theorem szSs : szOf Try.prog 37 = some 1 := by kernel_rfl
theorem app_ss : App Try.prog 37 9 StrE.sz 16 (.string ⟨#[]⟩) := ⟨by kernel_rfl, by kernel_rfl, by kernel_rfl, by kernel_rfl, rfl, by decide, by decide⟩
theorem bs_s (s : Str) : bsCells Try.prog 37 1 [(0, .string s)] = some (9, [Value.string s]) :=
  bs_one (v := .string s) app_ss.und app_ss.size app_ss.zero app_ss.zlen (by decide) (by decide) rfl
theorem undSs : Try.prog.underlying 37 = some (.slice 9) := by kernel_rfl
/-- noughts, made. -/
theorem svc_noughts {h : Heap} {n : Nat} {K : Value → Heap → Prop} (hn : n ≤ 512) (k : ∀ h', Keep h.size h h' → h'.size = h.size + 1 → Sl ByteE h' (some ⟨h.size, 0, none⟩) n (List.replicate n 0) → K (.slice (some ⟨h.size, 0, none⟩) n n) h') :
    SVC Try.prog (Instr.makeSlice 22 (.int .i64 n) (.int .i64 n)) h K :=
  svc_make_bytes undBs (by kernel_rfl) (by kernel_rfl) (by kernel_rfl) (by omega) k
/-- a row of one text. -/
theorem svc_row {h : Heap} {s : Str} {B0 : Nat} {K : Value → Heap → Prop} (hB : B0 ≤ h.size) (k : ∀ h', Keep h.size h h' → h'.size = h.size + 1 → Own StrE 9 B0 h' (some ⟨h.size, 0, none⟩) 1 1 [s] → K (.slice (some ⟨h.size, 0, none⟩) 1 1) h') :
    SVC Try.prog (Instr.buildSlice 37 1 (Array.mk [(0, .string s)])) h K :=
  svc_buildSlice (bs_s s) (k _ (keep_push _ _) (by simp) ⟨rfl, Nat.le_refl _, .inr ⟨h.size, _, rfl, hB, push_at _ _, rfl, [], rfl⟩⟩)
theorem page_of (n : Nat) : (⟨(List.replicate n (0 : UInt8)).toArray⟩ : Str).size = n := by show (List.replicate n (0 : UInt8)).toArray.size = n; simp
theorem zp_of : (⟨(List.replicate 512 (0 : UInt8)).toArray⟩ : Str) = zp := by rw [List.toArray_replicate]; rfl
theorem pad_of (b : Str) : b ++ (⟨(List.replicate (512 - b.size) (0 : UInt8)).toArray⟩ : Str) = pad b := by
  apply ByteArray.ext
  rw [ByteArray.data_append, List.toArray_replicate]
  rfl

theorem reads_i {h : Heap} {A : Option Addr} {n : Nat} {ns : List Int} {k : Nat} {s : Int} (hs : Sl (IntE .i64) h A n ns) (hk : ns[k]? = some s) : ∃ p, A = some p ∧ Reads Try.prog (Instr.loadAt 3 (.pointer (some (p.add (k * 1))))) h (.int .i64 s) := by
  obtain ⟨p, hA, hp⟩ := hs.get hk
  exact ⟨p, hA, reads_load scI (hp 0 (.int .i64 s) rfl)⟩
theorem reads_b {h : Heap} {A : Option Addr} {n : Nat} {ns : List Bool} {k : Nat} {s : Bool} (hs : Sl BoolE h A n ns) (hk : ns[k]? = some s) : ∃ p, A = some p ∧ Reads Try.prog (Instr.loadAt 4 (.pointer (some (p.add (k * 1))))) h (.bool s) := by
  obtain ⟨p, hA, hp⟩ := hs.get hk
  exact ⟨p, hA, reads_load scB (hp 0 (.bool s) rfl)⟩
theorem reads_s {h : Heap} {A : Option Addr} {n : Nat} {ns : List Str} {k : Nat} {s : Str} (hs : Sl StrE h A n ns) (hk : ns[k]? = some s) : ∃ p, A = some p ∧ Reads Try.prog (Instr.loadAt 9 (.pointer (some (p.add (k * 1))))) h (.string s) := by
  obtain ⟨p, hA, hp⟩ := hs.get hk
  exact ⟨p, hA, reads_load scS (hp 0 (.string s) rfl)⟩
end Go.Proofs.Ytembbemljejjbaa
