/-
  A map of this program's heap, as the shelf's contracts read it; sorted keys as a list by rising keys. Conditions: stated at each.
-/
import Derived.Test.YtepnckpaknabpaaA2
import Derived.Maps.Own
import Derived.Sort.KeysCollected
set_option linter.unusedVariables false
set_option linter.unusedSimpArgs false
namespace Go.Proofs.Ytepnckpaknabpaa
open Go Go.Vc Go.Proofs Go.Maps

theorem bytes_lt : ∀ (x y : List UInt8), Op.bytesLess x y = decide (x < y)
  | [], [] => rfl
  | [], b :: y => by simp [Op.bytesLess]
  | a :: x, [] => by simp [Op.bytesLess]
  | a :: x, b :: y => by
    rw [Op.bytesLess, bytes_lt x y]
    by_cases h1 : a < b
    · simp [h1, List.cons_lt_cons_iff]
    · by_cases h2 : a = b
      · subst h2; simp [List.cons_lt_cons_iff]
      · simp [h1, h2, List.cons_lt_cons_iff]

def readN (_ : Value) : Option (DataW Unit × List MemPlace) := some (.nil, [])
theorem und9 : Try.prog.underlying 9 = some .string := by kernel_rfl
theorem key_string {s : Str} (h : s.size ≤ 9223372036854775807) : keyOf Try.prog 9 (.string s) = some (.string s.data.toList) := by
  have : s.size ≤ maxLen := by unfold maxLen; omega
  simp [keyOf, und9, mapKey, this]
theorem str_data {a b : Str} (h : a.data.toList = b.data.toList) : a = b := by
  cases a; cases b; congr 1; exact Array.toList_inj.1 h
theorem owns_of {w : World} {r : Nat} {m : List (Str × Str)} (hma : MapAt M56 w.heap r m) (hbd : Bd (mKeys m)) (hl : m.length ≤ 1073741824) :
    ∃ D, w.ownsMap Try.prog 9 readN r m.length D ∧ (strKeys D).Perm ((mKeys m).map fun s => s.data.toList) ∧ Maps.size D = m.length := by
  obtain ⟨es, clock, hb, he, hn, hc, hbn⟩ := hma
  have hlen : es.size = m.length := by have := congrArg List.length he; simpa using this
  have hkeys : es.toList.map (·.key) = (mKeys m).map Value.string := by
    have := congrArg (List.map Prod.fst) he
    rw [List.map_map, List.map_map] at this
    unfold mKeys
    rw [List.map_map]
    exact this
  have hrd : ∀ x ∈ es.toList, ∃ s ∈ mKeys m, x.key = .string s ∧ Go.WideElems.rd Try.prog 9 readN x = some (.string s.data.toList, .nil) := fun x hx => by
    have hm : x.key ∈ es.toList.map (·.key) := List.mem_map_of_mem hx
    rw [hkeys] at hm
    obtain ⟨s, hs, e⟩ := List.mem_map.1 hm
    refine ⟨s, hs, e.symm, ?_⟩
    unfold Go.WideElems.rd
    rw [← e, key_string (hbd s hs)]
    rfl
  refine ⟨_, ⟨es, clock, hb, ⟨by unfold maxLen; omega, ⟨hc, hbn, ?_⟩, fun x hx => ?_⟩, by omega, rfl⟩, ?_, ?_⟩
  · rw [hkeys]
    exact hn.map _ (fun a b h e => h (by cases e; rfl))
  · obtain ⟨s, _, _, h⟩ := hrd x hx; exact ⟨_, h⟩
  · have h1 := (Go.WideShapes.sorted_perm (es.toList.map (Go.WideElems.rg Try.prog 9 readN))).map (fun p => strOf p.1)
    refine h1.trans (List.Perm.of_eq ?_)
    rw [List.map_map]
    have : (mKeys m).map (fun s => s.data.toList) = (es.toList.map (·.key)).map (fun v => match v with | .string s => s.data.toList | _ => []) := by
      rw [hkeys, List.map_map]; rfl
    rw [this, List.map_map]
    refine List.map_congr_left fun x hx => ?_
    obtain ⟨s, _, e, h⟩ := hrd x hx
    simp only [Function.comp, Go.WideElems.rg, h, e, Option.getD_some]
    rfl
  · show (List.foldr DataW.insert [] _).length = _
    rw [(Go.WideShapes.sorted_perm _).length_eq, List.length_map, Array.length_toList]; exact hlen

/-- the keys, sorted by bytes, as a list by rising keys. -/
theorem sorted_keys {m : List (Str × Str)} {ss : List (List UInt8)} (hn : (mKeys m).Nodup) (hp : ss.Perm ((mKeys m).map fun s => s.data.toList)) :
    Srt ((ss.mergeSort fun x y => decide (x ≤ y)).map fun l => (⟨l.toArray⟩ : Str)) ∧ (∀ q, q ∈ ((ss.mergeSort fun x y => decide (x ≤ y)).map fun l => (⟨l.toArray⟩ : Str)) ↔ q ∈ mKeys m) ∧
      ((ss.mergeSort fun x y => decide (x ≤ y)).map fun l => (⟨l.toArray⟩ : Str)).length = m.length := by
  have hperm := (List.mergeSort_perm ss fun x y => decide (x ≤ y)).trans hp
  have hnd : ((mKeys m).map fun s => s.data.toList).Nodup := hn.map _ fun a b h e => h (str_data e)
  have hnd' : (ss.mergeSort fun x y => decide (x ≤ y)).Nodup := (hperm.nodup_iff).2 hnd
  have hsorted := List.pairwise_mergeSort (le := fun x y : List UInt8 => decide (x ≤ y)) (fun a b c h1 h2 => by simp at *; exact List.le_trans h1 h2) (fun a b => by simpa using List.le_total a b) ss
  refine ⟨?_, fun q => ?_, ?_⟩
  · refine List.pairwise_map.2 ((hsorted.and hnd').imp fun {a b} h => ?_)
    obtain ⟨h1, h2⟩ := h
    show Op.bytesLess (ByteArray.toList ⟨a.toArray⟩) (ByteArray.toList ⟨b.toArray⟩) = true
    rw [ByteArray.toList_eq, ByteArray.toList_eq, bytes_lt]
    simp only [decide_eq_true_eq] at h1 ⊢
    exact Classical.byContradiction fun hlt => h2 (List.le_antisymm h1 (by simpa using hlt))
  · rw [List.mem_map]
    constructor
    · rintro ⟨l, hl, rfl⟩
      obtain ⟨s, hs, e⟩ := List.mem_map.1 ((hperm.mem_iff).1 hl)
      have : (⟨l.toArray⟩ : Str) = s := str_data (by simpa using e.symm)
      rw [this]; exact hs
    · intro hq
      refine ⟨q.data.toList, (hperm.mem_iff).2 (List.mem_map_of_mem hq), str_data (by simp)⟩
  · rw [List.length_map, hperm.length_eq, List.length_map]; simp [mKeys]
end Go.Proofs.Ytepnckpaknabpaa
