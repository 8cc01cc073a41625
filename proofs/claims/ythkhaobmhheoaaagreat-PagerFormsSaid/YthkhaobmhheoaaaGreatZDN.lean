/-
  Texts of this seat, laid one behind the other: DkN. Conditions: none.
-/
import Derived.Test.YthkhaobmhheoaaaGreatZD
import Derived.Maps.Own
import Derived.Sort.KeysCollected
import Derived.Shelf.SlIter.Nil
import Derived.Shelf.SortM.Plain
import Derived.Shelf.SortM.SortNone
import Derived.Ground.GgzProg
import Derived.Ground.SlgmProg
import Derived.Test.YthkhaobmhheoaaaGreatProg
import Derived.Test.YthkhaobmhheoaaaGreatZV
section
set_option linter.unusedVariables false
set_option linter.unusedSimpArgs false
namespace Go.Proofs.YthkhaobmhheoaaaGreat
open Go Go.Vc Go.Proofs Go.Maps Go.Dk

theorem bytes_lt : ∀ (x y : List UInt8), Op.bytesLess x y = decide (x < y)
  | [], [] => rfl
  | [], b :: y => by simp [Op.bytesLess]
  | a :: x, [] => by simp [Op.bytesLess]
  | a :: x, b :: y => by
    rw [Op.bytesLess, bytes_lt x y]
    by_cases h1 : a < b
    · simp [h1, List.cons_lt_cons_iff]
    · by_cases h2 : a = b
      · subst h2; simp [List.cons_lt_cons_iff]
      · simp [h1, h2, List.cons_lt_cons_iff]

def readN (_ : Value) : Option (DataW Unit × List MemPlace) := some (.nil, [])
theorem key_string {s : Str} (h : s.size ≤ 9223372036854775807) : keyOf Tryz.prog 9 (.string s) = some (.string s.data.toList) := by
  have : s.size ≤ maxLen := by unfold maxLen; omega
  simp [keyOf, undS, mapKey, this]
theorem str_data {a b : Str} (h : a.data.toList = b.data.toList) : a = b := by
  cases a; cases b; congr 1; exact Array.toList_inj.1 h
theorem owns_of {w : World} {r : Nat} {m : List (Str × Int)} (hma : MapAt Mc w.heap r m) (hbd : ∀ s ∈ mKeys m, s.size ≤ 9223372036854775807) (hl : m.length ≤ 1073741824) :
    ∃ D, w.ownsMap Tryz.prog 9 readN r m.length D ∧ (strKeys D).Perm ((mKeys m).map fun s => s.data.toList) ∧ Maps.size D = m.length := by
  obtain ⟨es, clock, hb, he, hn, hc, hbn⟩ := hma
  have hlen : es.size = m.length := by have := congrArg List.length he; simpa using this
  have hkeys : es.toList.map (·.key) = (mKeys m).map Value.string := by
    have := congrArg (List.map Prod.fst) he
    rw [List.map_map, List.map_map] at this
    unfold mKeys
    rw [List.map_map]
    exact this
  have hrd : ∀ x ∈ es.toList, ∃ s ∈ mKeys m, x.key = .string s ∧ Go.WideElems.rd Tryz.prog 9 readN x = some (.string s.data.toList, .nil) := fun x hx => by
    have hm : x.key ∈ es.toList.map (·.key) := List.mem_map_of_mem hx
    rw [hkeys] at hm
    obtain ⟨s, hs, e⟩ := List.mem_map.1 hm
    refine ⟨s, hs, e.symm, ?_⟩
    unfold Go.WideElems.rd
    rw [← e, key_string (hbd s hs)]
    rfl
  refine ⟨_, ⟨es, clock, hb, ⟨by unfold maxLen; omega, ⟨hc, hbn, ?_⟩, fun x hx => ?_⟩, by omega, rfl⟩, ?_, ?_⟩
  · rw [hkeys]
    exact hn.map _ (fun a b h e => h (by cases e; rfl))
  · obtain ⟨s, _, _, h⟩ := hrd x hx; exact ⟨_, h⟩
  · have h1 := (Go.WideShapes.sorted_perm (es.toList.map (Go.WideElems.rg Tryz.prog 9 readN))).map (fun p => strOf p.1)
    refine h1.trans (List.Perm.of_eq ?_)
    rw [List.map_map]
    have : (mKeys m).map (fun s => s.data.toList) = (es.toList.map (·.key)).map (fun v => match v with | .string s => s.data.toList | _ => []) := by
      rw [hkeys, List.map_map]; rfl
    rw [this, List.map_map]
    refine List.map_congr_left fun x hx => ?_
    obtain ⟨s, _, e, h⟩ := hrd x hx
    simp only [Function.comp, Go.WideElems.rg, h, e, Option.getD_some]
    rfl
  · show (List.foldr DataW.insert [] _).length = _
    rw [(Go.WideShapes.sorted_perm _).length_eq, List.length_map, Array.length_toList]; exact hlen

/-- the keys, sorted by bytes, as a list by rising keys. -/
theorem sorted_keys {m : List (Str × Int)} {ss : List (List UInt8)} (hn : (mKeys m).Nodup) (hp : ss.Perm ((mKeys m).map fun s => s.data.toList)) :
    Srt ((ss.mergeSort fun x y => decide (x ≤ y)).map fun l => (⟨l.toArray⟩ : Str)) ∧ (∀ q, q ∈ ((ss.mergeSort fun x y => decide (x ≤ y)).map fun l => (⟨l.toArray⟩ : Str)) ↔ q ∈ mKeys m) ∧
      ((ss.mergeSort fun x y => decide (x ≤ y)).map fun l => (⟨l.toArray⟩ : Str)).length = m.length := by
  have hperm := (List.mergeSort_perm ss fun x y => decide (x ≤ y)).trans hp
  have hnd : ((mKeys m).map fun s => s.data.toList).Nodup := hn.map _ fun a b h e => h (str_data e)
  have hnd' : (ss.mergeSort fun x y => decide (x ≤ y)).Nodup := (hperm.nodup_iff).2 hnd
  have hsorted := List.pairwise_mergeSort (le := fun x y : List UInt8 => decide (x ≤ y)) (fun a b c h1 h2 => by simp at *; exact List.le_trans h1 h2) (fun a b => by simpa using List.le_total a b) ss
  refine ⟨?_, fun q => ?_, ?_⟩
  · refine List.pairwise_map.2 ((hsorted.and hnd').imp fun {a b} h => ?_)
    obtain ⟨h1, h2⟩ := h
    show Op.bytesLess (ByteArray.toList ⟨a.toArray⟩) (ByteArray.toList ⟨b.toArray⟩) = true
    rw [ByteArray.toList_eq, ByteArray.toList_eq, bytes_lt]
    simp only [decide_eq_true_eq] at h1 ⊢
    exact Classical.byContradiction fun hlt => h2 (List.le_antisymm h1 (by simpa using hlt))
  · rw [List.mem_map]
    constructor
    · rintro ⟨l, hl, rfl⟩
      obtain ⟨s, hs, e⟩ := List.mem_map.1 ((hperm.mem_iff).1 hl)
      have : (⟨l.toArray⟩ : Str) = s := str_data (by simpa using e.symm)
      rw [this]; exact hs
    · intro hq
      refine ⟨q.data.toList, (hperm.mem_iff).2 (List.mem_map_of_mem hq), str_data (by simp)⟩
  · rw [List.length_map, hperm.length_eq, List.length_map]; simp [mKeys]
end Go.Proofs.YthkhaobmhheoaaaGreat
namespace Go.Proofs
open Go.RowKit Go.Maps Go.Sort Go.Shelf


shelf_lay_g SlLaysZ.n7 Ggz 7 at Tryz 63 as Tryz.keysN
shelf_lay_g SlLaysZ.n6 Ggz 6 at Tryz 62 as Tryz.sortedN
shelf_lay_g SlLaysM.n6 Slgm 6 at Tryz 102 as Tryz.sortN


theorem Tryz.sortsN (m : Nat) : AnyZ.SortsIn Tryz.prog Tryz.sortedN_ren Fence.wide m :=
  ⟨fun blk off cap ss W hH hblk hsz => callsIn_wide.2 (AnyM.slices_Sort_string Tryz.sortN blk off cap ss W hH hblk hsz),
   fun p cap W => callsIn_wide.2 (AnyM.slices_Sort_string_none Tryz.sortN p cap W)⟩


theorem Tryz.maps_KeysN (mb : Option Nat) (W : World) : CallsIn Fence.wide 5 Tryz.prog 63 #[.map mb] W fun e w' => e = .returned (.func (.func 103) #[] #[.pointer (some ⟨W.heap.size, 0, none⟩)]) ∧ w' = W.alloc (.cells #[.map mb] 91) :=
  AnyZ.keys_in Tryz.keysN Fence.wide 5 trivial rfl mb W

set_option maxHeartbeats 1000000 in
theorem Tryz.slices_Sorted_keysN {H : Type} (b nn : Nat) (D0 : DataW H) (R : Value → Option (DataW H × List MemPlace)) (w : World) (hown : w.ownsMap Tryz.prog 9 R b nn D0) (hmax : Maps.size D0 ≤ maxLen) (hbytes : Maps.size D0 * 16 ≤ 140737488355328) :
    CallsIn Fence.wide 5 Tryz.prog 62 #[.func (.func 103) #[] #[.pointer (some ⟨w.heap.size, 0, none⟩)]] (w.alloc (.cells #[.map (some b)] 91)) fun e w' => ∃ (v : Value) (ss : List (List UInt8)), e = .returned v ∧ ss.Perm (strKeys D0) ∧
      w'.ownsRow (w.alloc (.cells #[.map (some b)] 91)).heap.size 9 1 v ss.length ((ss.mergeSort (fun x y => decide (x ≤ y))).map encStr) ∧ (v = .slice none 0 0 ↔ ss = []) ∧ Below (w.alloc (.cells #[.map (some b)] 91)).heap.size (w.alloc (.cells #[.map (some b)] 91)) w' := by
  have hbl := hown.lt
  have hseq : SeqGives Fence.wide 2 Tryz.prog 103 #[.pointer (some ⟨w.heap.size, 0, none⟩)] encStr (fun ss => ss.Perm (strKeys D0)) (Maps.size D0) (w.alloc (.cells #[.map (some b)] 91)) :=
    AnyZ.keys_gives (ρ := Tryz.keysN_ren) { Tryz.keysN with } Fence.wide _ trivial rfl (by omega) w.heap.size b nn D0 _ (by simp) (by simp) (by
      obtain ⟨es, clock, hb, Ft, hs, hD⟩ := hown
      exact ⟨es, clock, (Below.heap_alloc _ _ b hbl).trans hb, Ft, hs, hD⟩)
  exact AnyZ.sorted_in Tryz.sortedN Fence.wide 5 trivial trivial trivial trivial rfl (by omega) (Tryz.sortsN _) (enters_of Tryz.func102 (by kernel_rfl) rfl) 103 #[.pointer (some ⟨w.heap.size, 0, none⟩)] trivial (enters_of Tryz.func103 (by kernel_rfl) rfl) _ _ hmax hbytes _ hseq

end Go.Proofs
set_option linter.unusedVariables false
set_option linter.unusedSimpArgs false
namespace Go.Proofs.YthkhaobmhheoaaaGreat
open Go Go.Vc Go.Proofs Go.Maps Go.Dk

theorem sl_of_row {w : World} {base : Nat} {v : Value} {ls : List (List UInt8)} (h : w.ownsRow base 9 1 v ls.length (ls.map encStr)) :
    ∃ a c, v = .slice a ls.length c ∧ Sl StrE w.heap a ls.length (ls.map fun l => (⟨l.toArray⟩ : Str)) := by
  obtain ⟨_, ⟨rfl, h0⟩ | ⟨g, cap, cur, rfl, _, hb, _, _, _, ht⟩⟩ := h
  · have : ls = [] := List.eq_nil_of_length_eq_zero h0
    subst this
    exact ⟨_, _, rfl, Sl.nil _ _⟩
  · refine ⟨_, _, rfl, by simp, .inr ⟨_, rfl, fun i x hx j u hu => ?_⟩⟩
    rw [List.getElem?_map] at hx
    cases hl : ls[i]? with
    | none => rw [hl] at hx; cases hx
    | some l =>
      rw [hl] at hx
      simp at hx
      subst hx
      have hi := (List.getElem?_eq_some_iff.1 hl).1
      match j, hu with
      | 0, hu =>
        simp [StrE] at hu
        subst hu
        rw [Addr.add_row, cell_at hb]
        have : (ls.map encStr)[i]? = some (encStr l) := by rw [List.getElem?_map, hl]; rfl
        rw [← ht, List.getElem?_take, if_pos (by omega)] at this
        have e : 0 + (i * StrE.sz + 0) = i := by show 0 + (i * 1 + 0) = i; omega
        rw [e, ← Array.getElem?_toList]
        exact this
      | j + 1, hu => simp [StrE] at hu

theorem sortedKeys {h : Heap} {r : Nat} {m : List (Str × Int)} (hma : MapAt Mc h r m) (hn : m.length ≤ 1073741824) (hbd : ∀ s ∈ mKeys m, s.size ≤ 9223372036854775807) :
    HC Tryz.prog 63 #[.map (some r)] h fun v h1 => Keep h.size h h1 ∧
      HC Tryz.prog 62 #[v] h1 fun v2 h2 => Keep h1.size h1 h2 ∧ ∃ a c K, Srt K ∧ (∀ q, q ∈ K ↔ q ∈ mKeys m) ∧ K.length = m.length ∧ v2 = .slice a K.length c ∧ Sl StrE h2 a K.length K := by
  refine ⟨fun w hw => ?_⟩
  subst hw
  refine (callsIn_wide.1 (Tryz.maps_KeysN (some r) w)).mono ?_
  rintro e w' ⟨rfl, rfl⟩
  refine ⟨_, rfl, Sane.push rfl, Keep.push _ _ _ (Nat.le_refl _), ⟨fun w2 hw2 => ?_⟩⟩
  obtain ⟨w0, hh, rfl⟩ : ∃ w0 : World, w0.heap = w.heap ∧ w2 = w0.alloc (.cells #[.map (some r)] 91) :=
    ⟨{ w2 with heap := w.heap }, rfl, by cases w2; simp only [World.alloc] at hw2 ⊢; subst hw2; rfl⟩
  rw [← hh] at hma ⊢
  obtain ⟨D, hown, hp0, hsz⟩ := owns_of (w := w0) hma hbd hn
  refine (callsIn_wide.1 (Tryz.slices_Sorted_keysN (H := Unit) r m.length D readN w0 hown (by rw [hsz]; unfold maxLen; omega) (by rw [hsz]; omega))).mono ?_
  rintro e w' ⟨v, ss, rfl, hp, hrow, hnil, hb⟩
  have hnd : (mKeys m).Nodup := by obtain ⟨_, _, _, _, h, _⟩ := hma; exact h
  obtain ⟨s1, s2, s3⟩ := sorted_keys hnd (hp.trans hp0)
  have hl : ss.length = (ss.mergeSort fun x y => decide (x ≤ y)).length := by simp
  rw [hl] at hrow
  obtain ⟨a, c, rfl, hsl⟩ := sl_of_row hrow
  have kp := Keep.push w0.heap.size w0.heap (.cells #[.map (some r)] 91) (Nat.le_refl _)
  refine ⟨_, rfl, ⟨hb.tape, hb.os, hb.output, hb.size, fun k o hk _ => (hb.block k (Array.getElem?_eq_some_iff.1 hk).1).trans hk⟩, (by show Keep (w.heap.push _).size (w.heap.push _) _; rw [← hh]; exact ⟨hb.size, hb.block⟩), a, c, _, s1, s2, s3, ?_, ?_⟩
  · simp
  · simpa using hsl
end Go.Proofs.YthkhaobmhheoaaaGreat
end
