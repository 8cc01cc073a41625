/-
  Texts of this seat, laid one behind the other: DkN. Conditions: none.
-/
import Derived.Test.YtembbemljejjbaaZD
import Derived.Maps.Own
import Derived.Sort.KeysCollected
import Derived.Shelf.SlIter.Nil
import Derived.Shelf.SortM.Plain
import Derived.Shelf.SortM.SortNone
import Derived.Ground.GgzProg
import Derived.Ground.SlgmProg
import Derived.Test.YtembbemljejjbaaProg
import Derived.Test.YtembbemljejjbaaZV
section
set_option linter.unusedVariables false
set_option linter.unusedSimpArgs false
namespace Go.Proofs.Ytembbemljejjbaa
open Go Go.Vc Go.Proofs Go.Maps Go.Dk

theorem bytes_lt : ∀ (x y : List UInt8), Op.bytesLess x y = decide (x < y)
  | [], [] => rfl
  | [], b :: y => by simp [Op.bytesLess]
  | a :: x, [] => by simp [Op.bytesLess]
  | a :: x, b :: y => by
    rw [Op.bytesLess, bytes_lt x y]
    by_cases h1 : a < b
    · simp [h1, List.cons_lt_cons_iff]
    · by_cases h2 : a = b
      · subst h2; simp [List.cons_lt_cons_iff]
      · simp [h1, h2, List.cons_lt_cons_iff]

def readN (_ : Value) : Option (DataW Unit × List MemPlace) := some (.nil, [])
theorem key_string {s : Str} (h : s.size ≤ 9223372036854775807) : keyOf Try.prog 9 (.string s) = some (.string s.data.toList) := by
  have : s.size ≤ maxLen := by unfold maxLen; omega
  simp [keyOf, undS, mapKey, this]
theorem str_data {a b : Str} (h : a.data.toList = b.data.toList) : a = b := by
  cases a; cases b; congr 1; exact Array.toList_inj.1 h
theorem owns_of {w : World} {r : Nat} {m : List (Str × Int)} (hma : MapAt Mc w.heap r m) (hbd : ∀ s ∈ mKeys m, s.size ≤ 9223372036854775807) (hl : m.length ≤ 1073741824) :
    ∃ D, w.ownsMap Try.prog 9 readN r m.length D ∧ (strKeys D).Perm ((mKeys m).map fun s => s.data.toList) ∧ Maps.size D = m.length := by
  obtain ⟨es, clock, hb, he, hn, hc, hbn⟩ := hma
  have hlen : es.size = m.length := by have := congrArg List.length he; simpa using this
  have hkeys : es.toList.map (·.key) = (mKeys m).map Value.string := by
    have := congrArg (List.map Prod.fst) he
    rw [List.map_map, List.map_map] at this
    unfold mKeys
    rw [List.map_map]
    exact this
  have hrd : ∀ x ∈ es.toList, ∃ s ∈ mKeys m, x.key = .string s ∧ Go.WideElems.rd Try.prog 9 readN x = some (.string s.data.toList, .nil) := fun x hx => by
    have hm : x.key ∈ es.toList.map (·.key) := List.mem_map_of_mem hx
    rw [hkeys] at hm
    obtain ⟨s, hs, e⟩ := List.mem_map.1 hm
    refine ⟨s, hs, e.symm, ?_⟩
    unfold Go.WideElems.rd
    rw [← e, key_string (hbd s hs)]
    rfl
  refine ⟨_, ⟨es, clock, hb, ⟨by unfold maxLen; omega, ⟨hc, hbn, ?_⟩, fun x hx => ?_⟩, by omega, rfl⟩, ?_, ?_⟩
  · rw [hkeys]
    exact hn.map _ (fun a b h e => h (by cases e; rfl))
  · obtain ⟨s, _, _, h⟩ := hrd x hx; exact ⟨_, h⟩
  · have h1 := (Go.WideShapes.sorted_perm (es.toList.map (Go.WideElems.rg Try.prog 9 readN))).map (fun p => strOf p.1)
    refine h1.trans (List.Perm.of_eq ?_)
    rw [List.map_map]
    have : (mKeys m).map (fun s => s.data.toList) = (es.toList.map (·.key)).map (fun v => match v with | .string s => s.data.toList | _ => []) := by
      rw [hkeys, List.map_map]; rfl
    rw [this, List.map_map]
    refine List.map_congr_left fun x hx => ?_
    obtain ⟨s, _, e, h⟩ := hrd x hx
    simp only [Function.comp, Go.WideElems.rg, h, e, Option.getD_some]
    rfl
  · show (List.foldr DataW.insert [] _).length = _
    rw [(Go.WideShapes.sorted_perm _).length_eq, List.length_map, Array.length_toList]; exact hlen

/-- the keys, sorted by bytes, as a list by rising keys. -/
theorem sorted_keys {m : List (Str × Int)} {ss : List (List UInt8)} (hn : (mKeys m).Nodup) (hp : ss.Perm ((mKeys m).map fun s => s.data.toList)) :
    Srt ((ss.mergeSort fun x y => decide (x ≤ y)).map fun l => (⟨l.toArray⟩ : Str)) ∧ (∀ q, q ∈ ((ss.mergeSort fun x y => decide (x ≤ y)).map fun l => (⟨l.toArray⟩ : Str)) ↔ q ∈ mKeys m) ∧
      ((ss.mergeSort fun x y => decide (x ≤ y)).map fun l => (⟨l.toArray⟩ : Str)).length = m.length := by
  have hperm := (List.mergeSort_perm ss fun x y => decide (x ≤ y)).trans hp
  have hnd : ((mKeys m).map fun s => s.data.toList).Nodup := hn.map _ fun a b h e => h (str_data e)
  have hnd' : (ss.mergeSort fun x y => decide (x ≤ y)).Nodup := (hperm.nodup_iff).2 hnd
  have hsorted := List.pairwise_mergeSort (le := fun x y : List UInt8 => decide (x ≤ y)) (fun a b c h1 h2 => by simp at *; exact List.le_trans h1 h2) (fun a b => by simpa using List.le_total a b) ss
  refine ⟨?_, fun q => ?_, ?_⟩
  · refine List.pairwise_map.2 ((hsorted.and hnd').imp fun {a b} h => ?_)
    obtain ⟨h1, h2⟩ := h
    show Op.bytesLess (ByteArray.toList ⟨a.toArray⟩) (ByteArray.toList ⟨b.toArray⟩) = true
    rw [ByteArray.toList_eq, ByteArray.toList_eq, bytes_lt]
    simp only [decide_eq_true_eq] at h1 ⊢
    exact Classical.byContradiction fun hlt => h2 (List.le_antisymm h1 (by simpa using hlt))
  · rw [List.mem_map]
    constructor
    · rintro ⟨l, hl, rfl⟩
      obtain ⟨s, hs, e⟩ := List.mem_map.1 ((hperm.mem_iff).1 hl)
      have : (⟨l.toArray⟩ : Str) = s := str_data (by simpa using e.symm)
      rw [this]; exact hs
    · intro hq
      refine ⟨q.data.toList, (hperm.mem_iff).2 (List.mem_map_of_mem hq), str_data (by simp)⟩
  · rw [List.length_map, hperm.length_eq, List.length_map]; simp [mKeys]
end Go.Proofs.Ytembbemljejjbaa
namespace Go.Proofs
open Go.RowKit Go.Maps Go.Sort Go.Shelf


section
open Go.Shelf
def Try.keysN_ren : Go.Shelf.Ren := ⟨fun | 7 => 72 | 10 => 102 | n => n, fun | 23 => 84 | 26 => 9 | 3 => 3 | 28 => 113 | 0 => 0 | 27 => 112 | 33 => 43 | 4 => 4 | n => n, fun | n => n⟩
theorem Try.keysN : Go.Proofs.SlLaysZ.n7 Try.prog Try.keysN_ren := {
  mixed := by kernel_rfl
  f7 := ⟨Try.f72.name, by decide, Try.func72.trans (congrArg some (by kernel_rfl))⟩
  f10 := ⟨Try.f102.name, by decide, Try.func102.trans (congrArg some (by kernel_rfl))⟩
  t0 := Try.underlying0
  a0 := Try.isAgg0
  z0 := Try.sizeOf0
  v0 := Try.zeroValue0
  t4 := Try.underlying4
  a4 := Try.isAgg4
  z4 := Try.sizeOf4
  v4 := Try.zeroValue4
  t23 := Try.underlying84
  a23 := Try.isAgg84
  z23 := Try.sizeOf84
  v23 := Try.zeroValue84
  t26 := Try.underlying9
  a26 := Try.isAgg9
  z26 := Try.sizeOf9
  v26 := Try.zeroValue9
  t27 := Try.underlying112
  a27 := Try.isAgg112
  z27 := Try.sizeOf112
  v27 := Try.zeroValue112
  t28 := Try.underlying113
  a28 := Try.isAgg113
  z28 := Try.sizeOf113
  v28 := Try.zeroValue113
  t33 := Try.underlying43
  a33 := Try.isAgg43
  z33 := Try.sizeOf43
  v33 := Try.zeroValue43 }
end
section
open Go.Shelf
def Try.sortedN_ren : Go.Shelf.Ren := ⟨fun | 6 => 71 | 8 => 100 | 9 => 101 | 11 => 119 | 13 => 121 | 12 => 120 | 23 => 139 | 24 => 140 | 14 => 130 | 15 => 131 | 16 => 132 | 17 => 133 | 18 => 134 | 19 => 135 | 20 => 136 | 21 => 137 | 22 => 138 | 25 => 151 | 26 => 152 | 27 => 153 | 28 => 154 | 29 => 155 | 30 => 156 | 31 => 161 | n => n, fun | 26 => 9 | 28 => 113 | 24 => 37 | 0 => 0 | 3 => 3 | 37 => 144 | 48 => 152 | 50 => 34 | 4 => 4 | 40 => 172 | 39 => 171 | 45 => 103 | 5 => 5 | 9 => 9 | 51 => 186 | 55 => 189 | 57 => 193 | 58 => 194 | 33 => 43 | n => n, fun | n => n⟩
theorem Try.sortedN : Go.Proofs.SlLaysZ.n6 Try.prog Try.sortedN_ren := {
  mixed := by kernel_rfl
  f6 := ⟨Try.f71.name, by decide, Try.func71.trans (congrArg some (by kernel_rfl))⟩
  f8 := ⟨Try.f100.name, by decide, Try.func100.trans (congrArg some (by kernel_rfl))⟩
  f11 := ⟨Try.f119.name, by decide, Try.func119.trans (congrArg some (by kernel_rfl))⟩
  t0 := Try.underlying0
  a0 := Try.isAgg0
  z0 := Try.sizeOf0
  v0 := Try.zeroValue0
  t24 := Try.underlying37
  a24 := Try.isAgg37
  z24 := Try.sizeOf37
  v24 := Try.zeroValue37
  t26 := Try.underlying9
  a26 := Try.isAgg9
  z26 := Try.sizeOf9
  v26 := Try.zeroValue9
  t28 := Try.underlying113
  a28 := Try.isAgg113
  z28 := Try.sizeOf113
  v28 := Try.zeroValue113
  i26 := by kernel_rfl }
end
section
open Go.Shelf
def Try.sortN_ren : Go.Shelf.Ren := ⟨fun | 6 => 101 | 8 => 121 | 9 => 120 | 19 => 139 | 20 => 140 | 21 => 130 | 22 => 131 | 23 => 132 | 24 => 133 | 25 => 134 | 26 => 135 | 27 => 136 | 28 => 137 | 29 => 138 | 36 => 151 | 31 => 152 | 32 => 153 | 37 => 154 | 38 => 155 | 39 => 156 | 41 => 161 | n => n, fun | 27 => 37 | 29 => 9 | 3 => 3 | 32 => 144 | 26 => 37 | 0 => 0 | 44 => 152 | 46 => 34 | 4 => 4 | 36 => 172 | 35 => 171 | 41 => 103 | 5 => 5 | 9 => 9 | 53 => 186 | 57 => 189 | 63 => 193 | 64 => 194 | n => n, fun | n => n⟩
theorem Try.sortN : Go.Proofs.SlLaysM.n6 Try.prog Try.sortN_ren := {
  mixed := by kernel_rfl
  f6 := ⟨Try.f101.name, by decide, Try.func101.trans (congrArg some (by kernel_rfl))⟩
  f8 := Try.func121.trans (congrArg some (by kernel_rfl))
  f9 := ⟨Try.f120.name, by decide, Try.func120.trans (congrArg some (by kernel_rfl))⟩
  f19 := Try.func139.trans (congrArg some (by kernel_rfl))
  f20 := Try.func140.trans (congrArg some (by kernel_rfl))
  f21 := ⟨Try.f130.name, by decide, Try.func130.trans (congrArg some (by kernel_rfl))⟩
  f22 := ⟨Try.f131.name, by decide, Try.func131.trans (congrArg some (by kernel_rfl))⟩
  f23 := ⟨Try.f132.name, by decide, Try.func132.trans (congrArg some (by kernel_rfl))⟩
  f24 := ⟨Try.f133.name, by decide, Try.func133.trans (congrArg some (by kernel_rfl))⟩
  f25 := ⟨Try.f134.name, by decide, Try.func134.trans (congrArg some (by kernel_rfl))⟩
  f26 := ⟨Try.f135.name, by decide, Try.func135.trans (congrArg some (by kernel_rfl))⟩
  f27 := ⟨Try.f136.name, by decide, Try.func136.trans (congrArg some (by kernel_rfl))⟩
  f28 := ⟨Try.f137.name, by decide, Try.func137.trans (congrArg some (by kernel_rfl))⟩
  f29 := ⟨Try.f138.name, by decide, Try.func138.trans (congrArg some (by kernel_rfl))⟩
  f31 := Try.func152.trans (congrArg some (by kernel_rfl))
  f32 := Try.func153.trans (congrArg some (by kernel_rfl))
  f36 := ⟨Try.f151.name, by decide, Try.func151.trans (congrArg some (by kernel_rfl))⟩
  f37 := ⟨Try.f154.name, by decide, Try.func154.trans (congrArg some (by kernel_rfl))⟩
  f38 := ⟨Try.f155.name, by decide, Try.func155.trans (congrArg some (by kernel_rfl))⟩
  f39 := ⟨Try.f156.name, by decide, Try.func156.trans (congrArg some (by kernel_rfl))⟩
  f41 := ⟨Try.f161.name, by decide, Try.func161.trans (congrArg some (by kernel_rfl))⟩
  t0 := Try.underlying0
  a0 := Try.isAgg0
  z0 := Try.sizeOf0
  v0 := Try.zeroValue0
  t3 := Try.underlying3
  a3 := Try.isAgg3
  z3 := Try.sizeOf3
  v3 := Try.zeroValue3
  t4 := Try.underlying4
  a4 := Try.isAgg4
  z4 := Try.sizeOf4
  v4 := Try.zeroValue4
  t5 := Try.underlying5
  a5 := Try.isAgg5
  z5 := Try.sizeOf5
  v5 := Try.zeroValue5
  t9 := Try.underlying9
  a9 := Try.isAgg9
  z9 := Try.sizeOf9
  v9 := Try.zeroValue9
  t26 := Try.underlying37
  a26 := Try.isAgg37
  z26 := Try.sizeOf37
  v26 := Try.zeroValue37
  t27 := Try.underlying37
  a27 := Try.isAgg37
  z27 := Try.sizeOf37
  v27 := Try.zeroValue37
  t29 := Try.underlying9
  a29 := Try.isAgg9
  z29 := Try.sizeOf9
  v29 := Try.zeroValue9
  t32 := Try.underlying144
  a32 := Try.isAgg144
  z32 := Try.sizeOf144
  v32 := Try.zeroValue144
  t35 := Try.underlying171
  a35 := Try.isAgg171
  z35 := Try.sizeOf171
  v35 := Try.zeroValue171
  t36 := Try.underlying172
  a36 := Try.isAgg172
  z36 := Try.sizeOf172
  v36 := Try.zeroValue172
  t41 := Try.underlying103
  a41 := Try.isAgg103
  z41 := Try.sizeOf103
  v41 := Try.zeroValue103
  t44 := Try.underlying152
  a44 := Try.isAgg152
  z44 := Try.sizeOf152
  v44 := Try.zeroValue152
  t46 := Try.underlying34
  a46 := Try.isAgg34
  z46 := Try.sizeOf34
  v46 := Try.zeroValue34
  t53 := Try.underlying186
  a53 := Try.isAgg186
  z53 := Try.sizeOf186
  v53 := Try.zeroValue186
  t57 := Try.underlying189
  a57 := Try.isAgg189
  z57 := Try.sizeOf189
  v57 := Try.zeroValue189
  t63 := Try.underlying193
  a63 := Try.isAgg193
  z63 := Try.sizeOf193
  v63 := Try.zeroValue193
  t64 := Try.underlying194
  a64 := Try.isAgg194
  z64 := Try.sizeOf194
  v64 := Try.zeroValue194 }
end


theorem Try.sortsN (m : Nat) : AnyZ.SortsIn Try.prog Try.sortedN_ren Fence.wide m :=
  ⟨fun blk off cap ss W hH hblk hsz => callsIn_wide.2 (AnyM.slices_Sort_string Try.sortN blk off cap ss W hH hblk hsz),
   fun p cap W => callsIn_wide.2 (AnyM.slices_Sort_string_none Try.sortN p cap W)⟩


theorem Try.maps_KeysN (mb : Option Nat) (W : World) : CallsIn Fence.wide 5 Try.prog 72 #[.map mb] W fun e w' => e = .returned (.func (.func 102) #[] #[.pointer (some ⟨W.heap.size, 0, none⟩)]) ∧ w' = W.alloc (.cells #[.map mb] 84) :=
  AnyZ.keys_in Try.keysN Fence.wide 5 trivial rfl mb W

set_option maxHeartbeats 1000000 in
theorem Try.slices_Sorted_keysN {H : Type} (b nn : Nat) (D0 : DataW H) (R : Value → Option (DataW H × List MemPlace)) (w : World) (hown : w.ownsMap Try.prog 9 R b nn D0) (hmax : Maps.size D0 ≤ maxLen) (hbytes : Maps.size D0 * 16 ≤ 140737488355328) :
    CallsIn Fence.wide 5 Try.prog 71 #[.func (.func 102) #[] #[.pointer (some ⟨w.heap.size, 0, none⟩)]] (w.alloc (.cells #[.map (some b)] 84)) fun e w' => ∃ (v : Value) (ss : List (List UInt8)), e = .returned v ∧ ss.Perm (strKeys D0) ∧
      w'.ownsRow (w.alloc (.cells #[.map (some b)] 84)).heap.size 9 1 v ss.length ((ss.mergeSort (fun x y => decide (x ≤ y))).map encStr) ∧ (v = .slice none 0 0 ↔ ss = []) ∧ Below (w.alloc (.cells #[.map (some b)] 84)).heap.size (w.alloc (.cells #[.map (some b)] 84)) w' := by
  have hbl := hown.lt
  have hseq : SeqGives Fence.wide 2 Try.prog 102 #[.pointer (some ⟨w.heap.size, 0, none⟩)] encStr (fun ss => ss.Perm (strKeys D0)) (Maps.size D0) (w.alloc (.cells #[.map (some b)] 84)) :=
    AnyZ.keys_gives (ρ := Try.keysN_ren) { Try.keysN with } Fence.wide _ trivial rfl (by omega) w.heap.size b nn D0 _ (by simp) (by simp) (by
      obtain ⟨es, clock, hb, Ft, hs, hD⟩ := hown
      exact ⟨es, clock, (Below.heap_alloc _ _ b hbl).trans hb, Ft, hs, hD⟩)
  exact AnyZ.sorted_in Try.sortedN Fence.wide 5 trivial trivial trivial trivial rfl (by omega) (Try.sortsN _) (enters_of Try.func101 (by kernel_rfl) rfl) 102 #[.pointer (some ⟨w.heap.size, 0, none⟩)] trivial (enters_of Try.func102 (by kernel_rfl) rfl) _ _ hmax hbytes _ hseq

end Go.Proofs
set_option linter.unusedVariables false
set_option linter.unusedSimpArgs false
namespace Go.Proofs.Ytembbemljejjbaa
open Go Go.Vc Go.Proofs Go.Maps Go.Dk

theorem sl_of_row {w : World} {base : Nat} {v : Value} {ls : List (List UInt8)} (h : w.ownsRow base 9 1 v ls.length (ls.map encStr)) :
    ∃ a c, v = .slice a ls.length c ∧ Sl StrE w.heap a ls.length (ls.map fun l => (⟨l.toArray⟩ : Str)) := by
  obtain ⟨_, ⟨rfl, h0⟩ | ⟨g, cap, cur, rfl, _, hb, _, _, _, ht⟩⟩ := h
  · have : ls = [] := List.eq_nil_of_length_eq_zero h0
    subst this
    exact ⟨_, _, rfl, Sl.nil _ _⟩
  · refine ⟨_, _, rfl, by simp, .inr ⟨_, rfl, fun i x hx j u hu => ?_⟩⟩
    rw [List.getElem?_map] at hx
    cases hl : ls[i]? with
    | none => rw [hl] at hx; cases hx
    | some l =>
      rw [hl] at hx
      simp at hx
      subst hx
      have hi := (List.getElem?_eq_some_iff.1 hl).1
      match j, hu with
      | 0, hu =>
        simp [StrE] at hu
        subst hu
        rw [Addr.add_row, cell_at hb]
        have : (ls.map encStr)[i]? = some (encStr l) := by rw [List.getElem?_map, hl]; rfl
        rw [← ht, List.getElem?_take, if_pos (by omega)] at this
        have e : 0 + (i * StrE.sz + 0) = i := by show 0 + (i * 1 + 0) = i; omega
        rw [e, ← Array.getElem?_toList]
        exact this
      | j + 1, hu => simp [StrE] at hu

theorem sortedKeys {h : Heap} {r : Nat} {m : List (Str × Int)} (hma : MapAt Mc h r m) (hn : m.length ≤ 1073741824) (hbd : ∀ s ∈ mKeys m, s.size ≤ 9223372036854775807) :
    HC Try.prog 72 #[.map (some r)] h fun v h1 => Keep h.size h h1 ∧
      HC Try.prog 71 #[v] h1 fun v2 h2 => Keep h1.size h1 h2 ∧ ∃ a c K, Srt K ∧ (∀ q, q ∈ K ↔ q ∈ mKeys m) ∧ K.length = m.length ∧ v2 = .slice a K.length c ∧ Sl StrE h2 a K.length K := by
  refine ⟨fun w hw => ?_⟩
  subst hw
  refine (callsIn_wide.1 (Try.maps_KeysN (some r) w)).mono ?_
  rintro e w' ⟨rfl, rfl⟩
  refine ⟨_, rfl, Sane.push rfl, Keep.push _ _ _ (Nat.le_refl _), ⟨fun w2 hw2 => ?_⟩⟩
  obtain ⟨w0, hh, rfl⟩ : ∃ w0 : World, w0.heap = w.heap ∧ w2 = w0.alloc (.cells #[.map (some r)] 84) :=
    ⟨{ w2 with heap := w.heap }, rfl, by cases w2; simp only [World.alloc] at hw2 ⊢; subst hw2; rfl⟩
  rw [← hh] at hma ⊢
  obtain ⟨D, hown, hp0, hsz⟩ := owns_of (w := w0) hma hbd hn
  refine (callsIn_wide.1 (Try.slices_Sorted_keysN (H := Unit) r m.length D readN w0 hown (by rw [hsz]; unfold maxLen; omega) (by rw [hsz]; omega))).mono ?_
  rintro e w' ⟨v, ss, rfl, hp, hrow, hnil, hb⟩
  have hnd : (mKeys m).Nodup := by obtain ⟨_, _, _, _, h, _⟩ := hma; exact h
  obtain ⟨s1, s2, s3⟩ := sorted_keys hnd (hp.trans hp0)
  have hl : ss.length = (ss.mergeSort fun x y => decide (x ≤ y)).length := by simp
  rw [hl] at hrow
  obtain ⟨a, c, rfl, hsl⟩ := sl_of_row hrow
  have kp := Keep.push w0.heap.size w0.heap (.cells #[.map (some r)] 84) (Nat.le_refl _)
  refine ⟨_, rfl, ⟨hb.tape, hb.os, hb.output, hb.size, fun k o hk _ => (hb.block k (Array.getElem?_eq_some_iff.1 hk).1).trans hk⟩, (by show Keep (w.heap.push _).size (w.heap.push _) _; rw [← hh]; exact ⟨hb.size, hb.block⟩), a, c, _, s1, s2, s3, ?_, ?_⟩
  · simp
  · simpa using hsl
end Go.Proofs.Ytembbemljejjbaa
end
