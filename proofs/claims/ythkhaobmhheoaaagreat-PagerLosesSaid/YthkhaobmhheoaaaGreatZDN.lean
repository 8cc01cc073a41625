/-
  Texts of this seat, laid one behind the other: DkN. Conditions: none.
-/
import Derived.Test.YthkhaobmhheoaaaGreatZD
import Derived.Maps.Own
import Derived.Sort.KeysCollected
import Derived.Shelf.SlIter.Nil
import Derived.Shelf.SortM.Plain
import Derived.Shelf.SortM.SortNone
import Derived.Ground.GgzProg
import Derived.Ground.SlgmProg
import Derived.Test.YthkhaobmhheoaaaGreatProg
import Derived.Test.YthkhaobmhheoaaaGreatZV
section
set_option linter.unusedVariables false
set_option linter.unusedSimpArgs false
namespace Go.Proofs.YthkhaobmhheoaaaGreat
open Go Go.Vc Go.Proofs Go.Maps Go.Dk

theorem bytes_lt : ∀ (x y : List UInt8), Op.bytesLess x y = decide (x < y)
  | [], [] => rfl
  | [], b :: y => by simp [Op.bytesLess]
  | a :: x, [] => by simp [Op.bytesLess]
  | a :: x, b :: y => by
    rw [Op.bytesLess, bytes_lt x y]
    by_cases h1 : a < b
    · simp [h1, List.cons_lt_cons_iff]
    · by_cases h2 : a = b
      · subst h2; simp [List.cons_lt_cons_iff]
      · simp [h1, h2, List.cons_lt_cons_iff]

def readN (_ : Value) : Option (DataW Unit × List MemPlace) := some (.nil, [])
theorem key_string {s : Str} (h : s.size ≤ 9223372036854775807) : keyOf Tryz.prog 9 (.string s) = some (.string s.data.toList) := by
  have : s.size ≤ maxLen := by unfold maxLen; omega
  simp [keyOf, undS, mapKey, this]
theorem str_data {a b : Str} (h : a.data.toList = b.data.toList) : a = b := by
  cases a; cases b; congr 1; exact Array.toList_inj.1 h
theorem owns_of {w : World} {r : Nat} {m : List (Str × Int)} (hma : MapAt Mc w.heap r m) (hbd : ∀ s ∈ mKeys m, s.size ≤ 9223372036854775807) (hl : m.length ≤ 1073741824) :
    ∃ D, w.ownsMap Tryz.prog 9 readN r m.length D ∧ (strKeys D).Perm ((mKeys m).map fun s => s.data.toList) ∧ Maps.size D = m.length := by
  obtain ⟨es, clock, hb, he, hn, hc, hbn⟩ := hma
  have hlen : es.size = m.length := by have := congrArg List.length he; simpa using this
  have hkeys : es.toList.map (·.key) = (mKeys m).map Value.string := by
    have := congrArg (List.map Prod.fst) he
    rw [List.map_map, List.map_map] at this
    unfold mKeys
    rw [List.map_map]
    exact this
  have hrd : ∀ x ∈ es.toList, ∃ s ∈ mKeys m, x.key = .string s ∧ Go.WideElems.rd Tryz.prog 9 readN x = some (.string s.data.toList, .nil) := fun x hx => by
    have hm : x.key ∈ es.toList.map (·.key) := List.mem_map_of_mem hx
    rw [hkeys] at hm
    obtain ⟨s, hs, e⟩ := List.mem_map.1 hm
    refine ⟨s, hs, e.symm, ?_⟩
    unfold Go.WideElems.rd
    rw [← e, key_string (hbd s hs)]
    rfl
  refine ⟨_, ⟨es, clock, hb, ⟨by unfold maxLen; omega, ⟨hc, hbn, ?_⟩, fun x hx => ?_⟩, by omega, rfl⟩, ?_, ?_⟩
  · rw [hkeys]
    exact hn.map _ (fun a b h e => h (by cases e; rfl))
  · obtain ⟨s, _, _, h⟩ := hrd x hx; exact ⟨_, h⟩
  · have h1 := (Go.WideShapes.sorted_perm (es.toList.map (Go.WideElems.rg Tryz.prog 9 readN))).map (fun p => strOf p.1)
    refine h1.trans (List.Perm.of_eq ?_)
    rw [List.map_map]
    have : (mKeys m).map (fun s => s.data.toList) = (es.toList.map (·.key)).map (fun v => match v with | .string s => s.data.toList | _ => []) := by
      rw [hkeys, List.map_map]; rfl
    rw [this, List.map_map]
    refine List.map_congr_left fun x hx => ?_
    obtain ⟨s, _, e, h⟩ := hrd x hx
    simp only [Function.comp, Go.WideElems.rg, h, e, Option.getD_some]
    rfl
  · show (List.foldr DataW.insert [] _).length = _
    rw [(Go.WideShapes.sorted_perm _).length_eq, List.length_map, Array.length_toList]; exact hlen

/-- the keys, sorted by bytes, as a list by rising keys. -/
theorem sorted_keys {m : List (Str × Int)} {ss : List (List UInt8)} (hn : (mKeys m).Nodup) (hp : ss.Perm ((mKeys m).map fun s => s.data.toList)) :
    Srt ((ss.mergeSort fun x y => decide (x ≤ y)).map fun l => (⟨l.toArray⟩ : Str)) ∧ (∀ q, q ∈ ((ss.mergeSort fun x y => decide (x ≤ y)).map fun l => (⟨l.toArray⟩ : Str)) ↔ q ∈ mKeys m) ∧
      ((ss.mergeSort fun x y => decide (x ≤ y)).map fun l => (⟨l.toArray⟩ : Str)).length = m.length := by
  have hperm := (List.mergeSort_perm ss fun x y => decide (x ≤ y)).trans hp
  have hnd : ((mKeys m).map fun s => s.data.toList).Nodup := hn.map _ fun a b h e => h (str_data e)
  have hnd' : (ss.mergeSort fun x y => decide (x ≤ y)).Nodup := (hperm.nodup_iff).2 hnd
  have hsorted := List.pairwise_mergeSort (le := fun x y : List UInt8 => decide (x ≤ y)) (fun a b c h1 h2 => by simp at *; exact List.le_trans h1 h2) (fun a b => by simpa using List.le_total a b) ss
  refine ⟨?_, fun q => ?_, ?_⟩
  · refine List.pairwise_map.2 ((hsorted.and hnd').imp fun {a b} h => ?_)
    obtain ⟨h1, h2⟩ := h
    show Op.bytesLess (ByteArray.toList ⟨a.toArray⟩) (ByteArray.toList ⟨b.toArray⟩) = true
    rw [ByteArray.toList_eq, ByteArray.toList_eq, bytes_lt]
    simp only [decide_eq_true_eq] at h1 ⊢
    exact Classical.byContradiction fun hlt => h2 (List.le_antisymm h1 (by simpa using hlt))
  · rw [List.mem_map]
    constructor
    · rintro ⟨l, hl, rfl⟩
      obtain ⟨s, hs, e⟩ := List.mem_map.1 ((hperm.mem_iff).1 hl)
      have : (⟨l.toArray⟩ : Str) = s := str_data (by simpa using e.symm)
      rw [this]; exact hs
    · intro hq
      refine ⟨q.data.toList, (hperm.mem_iff).2 (List.mem_map_of_mem hq), str_data (by simp)⟩
  · rw [List.length_map, hperm.length_eq, List.length_map]; simp [mKeys]
end Go.Proofs.YthkhaobmhheoaaaGreat
namespace Go.Proofs
open Go.RowKit Go.Maps Go.Sort Go.Shelf


section
open Go.Shelf
def Tryz.keysN_ren : Go.Shelf.Ren := ⟨fun | 7 => 63 | 10 => 103 | n => n, fun | 23 => 91 | 26 => 9 | 3 => 3 | 28 => 116 | 0 => 0 | 27 => 115 | 33 => 109 | 4 => 4 | n => n, fun | n => n⟩
theorem Tryz.keysN : Go.Proofs.SlLaysZ.n7 Tryz.prog Tryz.keysN_ren := {
  mixed := by kernel_rfl
  f7 := ⟨Tryz.f63.name, by decide, Tryz.func63.trans (congrArg some (by kernel_rfl))⟩
  f10 := ⟨Tryz.f103.name, by decide, Tryz.func103.trans (congrArg some (by kernel_rfl))⟩
  t0 := Tryz.underlying0
  a0 := Tryz.isAgg0
  z0 := Tryz.sizeOf0
  v0 := Tryz.zeroValue0
  t4 := Tryz.underlying4
  a4 := Tryz.isAgg4
  z4 := Tryz.sizeOf4
  v4 := Tryz.zeroValue4
  t23 := Tryz.underlying91
  a23 := Tryz.isAgg91
  z23 := Tryz.sizeOf91
  v23 := Tryz.zeroValue91
  t26 := Tryz.underlying9
  a26 := Tryz.isAgg9
  z26 := Tryz.sizeOf9
  v26 := Tryz.zeroValue9
  t27 := Tryz.underlying115
  a27 := Tryz.isAgg115
  z27 := Tryz.sizeOf115
  v27 := Tryz.zeroValue115
  t28 := Tryz.underlying116
  a28 := Tryz.isAgg116
  z28 := Tryz.sizeOf116
  v28 := Tryz.zeroValue116
  t33 := Tryz.underlying109
  a33 := Tryz.isAgg109
  z33 := Tryz.sizeOf109
  v33 := Tryz.zeroValue109 }
end
section
open Go.Shelf
def Tryz.sortedN_ren : Go.Shelf.Ren := ⟨fun | 6 => 62 | 8 => 101 | 9 => 102 | 11 => 132 | 13 => 134 | 12 => 133 | 23 => 157 | 24 => 158 | 14 => 149 | 15 => 150 | 16 => 151 | 17 => 152 | 18 => 153 | 19 => 154 | 20 => 123 | 21 => 155 | 22 => 156 | 25 => 179 | 26 => 180 | 27 => 181 | 28 => 182 | 29 => 183 | 30 => 147 | 31 => 193 | n => n, fun | 26 => 9 | 28 => 116 | 24 => 25 | 0 => 0 | 3 => 3 | 37 => 75 | 48 => 85 | 50 => 45 | 4 => 4 | 40 => 205 | 39 => 204 | 45 => 131 | 5 => 5 | 9 => 9 | 51 => 229 | 55 => 232 | 57 => 240 | 58 => 241 | 33 => 109 | n => n, fun | n => n⟩
theorem Tryz.sortedN : Go.Proofs.SlLaysZ.n6 Tryz.prog Tryz.sortedN_ren := {
  mixed := by kernel_rfl
  f6 := ⟨Tryz.f62.name, by decide, Tryz.func62.trans (congrArg some (by kernel_rfl))⟩
  f8 := ⟨Tryz.f101.name, by decide, Tryz.func101.trans (congrArg some (by kernel_rfl))⟩
  f11 := ⟨Tryz.f132.name, by decide, Tryz.func132.trans (congrArg some (by kernel_rfl))⟩
  t0 := Tryz.underlying0
  a0 := Tryz.isAgg0
  z0 := Tryz.sizeOf0
  v0 := Tryz.zeroValue0
  t24 := Tryz.underlying25
  a24 := Tryz.isAgg25
  z24 := Tryz.sizeOf25
  v24 := Tryz.zeroValue25
  t26 := Tryz.underlying9
  a26 := Tryz.isAgg9
  z26 := Tryz.sizeOf9
  v26 := Tryz.zeroValue9
  t28 := Tryz.underlying116
  a28 := Tryz.isAgg116
  z28 := Tryz.sizeOf116
  v28 := Tryz.zeroValue116
  i26 := by kernel_rfl }
end
section
open Go.Shelf
def Tryz.sortN_ren : Go.Shelf.Ren := ⟨fun | 6 => 102 | 8 => 134 | 9 => 133 | 19 => 157 | 20 => 158 | 21 => 149 | 22 => 150 | 23 => 151 | 24 => 152 | 25 => 153 | 26 => 154 | 27 => 123 | 28 => 155 | 29 => 156 | 36 => 179 | 31 => 180 | 32 => 181 | 37 => 182 | 38 => 183 | 39 => 147 | 41 => 193 | n => n, fun | 27 => 25 | 29 => 9 | 3 => 3 | 32 => 75 | 26 => 25 | 0 => 0 | 44 => 85 | 46 => 45 | 4 => 4 | 36 => 205 | 35 => 204 | 41 => 131 | 5 => 5 | 9 => 9 | 53 => 229 | 57 => 232 | 63 => 240 | 64 => 241 | n => n, fun | n => n⟩
theorem Tryz.sortN : Go.Proofs.SlLaysM.n6 Tryz.prog Tryz.sortN_ren := {
  mixed := by kernel_rfl
  f6 := ⟨Tryz.f102.name, by decide, Tryz.func102.trans (congrArg some (by kernel_rfl))⟩
  f8 := Tryz.func134.trans (congrArg some (by kernel_rfl))
  f9 := ⟨Tryz.f133.name, by decide, Tryz.func133.trans (congrArg some (by kernel_rfl))⟩
  f19 := Tryz.func157.trans (congrArg some (by kernel_rfl))
  f20 := Tryz.func158.trans (congrArg some (by kernel_rfl))
  f21 := ⟨Tryz.f149.name, by decide, Tryz.func149.trans (congrArg some (by kernel_rfl))⟩
  f22 := ⟨Tryz.f150.name, by decide, Tryz.func150.trans (congrArg some (by kernel_rfl))⟩
  f23 := ⟨Tryz.f151.name, by decide, Tryz.func151.trans (congrArg some (by kernel_rfl))⟩
  f24 := ⟨Tryz.f152.name, by decide, Tryz.func152.trans (congrArg some (by kernel_rfl))⟩
  f25 := ⟨Tryz.f153.name, by decide, Tryz.func153.trans (congrArg some (by kernel_rfl))⟩
  f26 := ⟨Tryz.f154.name, by decide, Tryz.func154.trans (congrArg some (by kernel_rfl))⟩
  f27 := ⟨Tryz.f123.name, by decide, Tryz.func123.trans (congrArg some (by kernel_rfl))⟩
  f28 := ⟨Tryz.f155.name, by decide, Tryz.func155.trans (congrArg some (by kernel_rfl))⟩
  f29 := ⟨Tryz.f156.name, by decide, Tryz.func156.trans (congrArg some (by kernel_rfl))⟩
  f31 := Tryz.func180.trans (congrArg some (by kernel_rfl))
  f32 := Tryz.func181.trans (congrArg some (by kernel_rfl))
  f36 := ⟨Tryz.f179.name, by decide, Tryz.func179.trans (congrArg some (by kernel_rfl))⟩
  f37 := ⟨Tryz.f182.name, by decide, Tryz.func182.trans (congrArg some (by kernel_rfl))⟩
  f38 := ⟨Tryz.f183.name, by decide, Tryz.func183.trans (congrArg some (by kernel_rfl))⟩
  f39 := ⟨Tryz.f147.name, by decide, Tryz.func147.trans (congrArg some (by kernel_rfl))⟩
  f41 := ⟨Tryz.f193.name, by decide, Tryz.func193.trans (congrArg some (by kernel_rfl))⟩
  t0 := Tryz.underlying0
  a0 := Tryz.isAgg0
  z0 := Tryz.sizeOf0
  v0 := Tryz.zeroValue0
  t3 := Tryz.underlying3
  a3 := Tryz.isAgg3
  z3 := Tryz.sizeOf3
  v3 := Tryz.zeroValue3
  t4 := Tryz.underlying4
  a4 := Tryz.isAgg4
  z4 := Tryz.sizeOf4
  v4 := Tryz.zeroValue4
  t5 := Tryz.underlying5
  a5 := Tryz.isAgg5
  z5 := Tryz.sizeOf5
  v5 := Tryz.zeroValue5
  t9 := Tryz.underlying9
  a9 := Tryz.isAgg9
  z9 := Tryz.sizeOf9
  v9 := Tryz.zeroValue9
  t26 := Tryz.underlying25
  a26 := Tryz.isAgg25
  z26 := Tryz.sizeOf25
  v26 := Tryz.zeroValue25
  t27 := Tryz.underlying25
  a27 := Tryz.isAgg25
  z27 := Tryz.sizeOf25
  v27 := Tryz.zeroValue25
  t29 := Tryz.underlying9
  a29 := Tryz.isAgg9
  z29 := Tryz.sizeOf9
  v29 := Tryz.zeroValue9
  t32 := Tryz.underlying75
  a32 := Tryz.isAgg75
  z32 := Tryz.sizeOf75
  v32 := Tryz.zeroValue75
  t35 := Tryz.underlying204
  a35 := Tryz.isAgg204
  z35 := Tryz.sizeOf204
  v35 := Tryz.zeroValue204
  t36 := Tryz.underlying205
  a36 := Tryz.isAgg205
  z36 := Tryz.sizeOf205
  v36 := Tryz.zeroValue205
  t41 := Tryz.underlying131
  a41 := Tryz.isAgg131
  z41 := Tryz.sizeOf131
  v41 := Tryz.zeroValue131
  t44 := Tryz.underlying85
  a44 := Tryz.isAgg85
  z44 := Tryz.sizeOf85
  v44 := Tryz.zeroValue85
  t46 := Tryz.underlying45
  a46 := Tryz.isAgg45
  z46 := Tryz.sizeOf45
  v46 := Tryz.zeroValue45
  t53 := Tryz.underlying229
  a53 := Tryz.isAgg229
  z53 := Tryz.sizeOf229
  v53 := Tryz.zeroValue229
  t57 := Tryz.underlying232
  a57 := Tryz.isAgg232
  z57 := Tryz.sizeOf232
  v57 := Tryz.zeroValue232
  t63 := Tryz.underlying240
  a63 := Tryz.isAgg240
  z63 := Tryz.sizeOf240
  v63 := Tryz.zeroValue240
  t64 := Tryz.underlying241
  a64 := Tryz.isAgg241
  z64 := Tryz.sizeOf241
  v64 := Tryz.zeroValue241 }
end


theorem Tryz.sortsN (m : Nat) : AnyZ.SortsIn Tryz.prog Tryz.sortedN_ren Fence.wide m :=
  ⟨fun blk off cap ss W hH hblk hsz => callsIn_wide.2 (AnyM.slices_Sort_string Tryz.sortN blk off cap ss W hH hblk hsz),
   fun p cap W => callsIn_wide.2 (AnyM.slices_Sort_string_none Tryz.sortN p cap W)⟩


theorem Tryz.maps_KeysN (mb : Option Nat) (W : World) : CallsIn Fence.wide 5 Tryz.prog 63 #[.map mb] W fun e w' => e = .returned (.func (.func 103) #[] #[.pointer (some ⟨W.heap.size, 0, none⟩)]) ∧ w' = W.alloc (.cells #[.map mb] 91) :=
  AnyZ.keys_in Tryz.keysN Fence.wide 5 trivial rfl mb W

set_option maxHeartbeats 1000000 in
theorem Tryz.slices_Sorted_keysN {H : Type} (b nn : Nat) (D0 : DataW H) (R : Value → Option (DataW H × List MemPlace)) (w : World) (hown : w.ownsMap Tryz.prog 9 R b nn D0) (hmax : Maps.size D0 ≤ maxLen) (hbytes : Maps.size D0 * 16 ≤ 140737488355328) :
    CallsIn Fence.wide 5 Tryz.prog 62 #[.func (.func 103) #[] #[.pointer (some ⟨w.heap.size, 0, none⟩)]] (w.alloc (.cells #[.map (some b)] 91)) fun e w' => ∃ (v : Value) (ss : List (List UInt8)), e = .returned v ∧ ss.Perm (strKeys D0) ∧
      w'.ownsRow (w.alloc (.cells #[.map (some b)] 91)).heap.size 9 1 v ss.length ((ss.mergeSort (fun x y => decide (x ≤ y))).map encStr) ∧ (v = .slice none 0 0 ↔ ss = []) ∧ Below (w.alloc (.cells #[.map (some b)] 91)).heap.size (w.alloc (.cells #[.map (some b)] 91)) w' := by
  have hbl := hown.lt
  have hseq : SeqGives Fence.wide 2 Tryz.prog 103 #[.pointer (some ⟨w.heap.size, 0, none⟩)] encStr (fun ss => ss.Perm (strKeys D0)) (Maps.size D0) (w.alloc (.cells #[.map (some b)] 91)) :=
    AnyZ.keys_gives (ρ := Tryz.keysN_ren) { Tryz.keysN with } Fence.wide _ trivial rfl (by omega) w.heap.size b nn D0 _ (by simp) (by simp) (by
      obtain ⟨es, clock, hb, Ft, hs, hD⟩ := hown
      exact ⟨es, clock, (Below.heap_alloc _ _ b hbl).trans hb, Ft, hs, hD⟩)
  exact AnyZ.sorted_in Tryz.sortedN Fence.wide 5 trivial trivial trivial trivial rfl (by omega) (Tryz.sortsN _) (enters_of Tryz.func102 (by kernel_rfl) rfl) 103 #[.pointer (some ⟨w.heap.size, 0, none⟩)] trivial (enters_of Tryz.func103 (by kernel_rfl) rfl) _ _ hmax hbytes _ hseq

end Go.Proofs
set_option linter.unusedVariables false
set_option linter.unusedSimpArgs false
namespace Go.Proofs.YthkhaobmhheoaaaGreat
open Go Go.Vc Go.Proofs Go.Maps Go.Dk

theorem sl_of_row {w : World} {base : Nat} {v : Value} {ls : List (List UInt8)} (h : w.ownsRow base 9 1 v ls.length (ls.map encStr)) :
    ∃ a c, v = .slice a ls.length c ∧ Sl StrE w.heap a ls.length (ls.map fun l => (⟨l.toArray⟩ : Str)) := by
  obtain ⟨_, ⟨rfl, h0⟩ | ⟨g, cap, cur, rfl, _, hb, _, _, _, ht⟩⟩ := h
  · have : ls = [] := List.eq_nil_of_length_eq_zero h0
    subst this
    exact ⟨_, _, rfl, Sl.nil _ _⟩
  · refine ⟨_, _, rfl, by simp, .inr ⟨_, rfl, fun i x hx j u hu => ?_⟩⟩
    rw [List.getElem?_map] at hx
    cases hl : ls[i]? with
    | none => rw [hl] at hx; cases hx
    | some l =>
      rw [hl] at hx
      simp at hx
      subst hx
      have hi := (List.getElem?_eq_some_iff.1 hl).1
      match j, hu with
      | 0, hu =>
        simp [StrE] at hu
        subst hu
        rw [Addr.add_row, cell_at hb]
        have : (ls.map encStr)[i]? = some (encStr l) := by rw [List.getElem?_map, hl]; rfl
        rw [← ht, List.getElem?_take, if_pos (by omega)] at this
        have e : 0 + (i * StrE.sz + 0) = i := by show 0 + (i * 1 + 0) = i; omega
        rw [e, ← Array.getElem?_toList]
        exact this
      | j + 1, hu => simp [StrE] at hu

theorem sortedKeys {h : Heap} {r : Nat} {m : List (Str × Int)} (hma : MapAt Mc h r m) (hn : m.length ≤ 1073741824) (hbd : ∀ s ∈ mKeys m, s.size ≤ 9223372036854775807) :
    HC Tryz.prog 63 #[.map (some r)] h fun v h1 => Keep h.size h h1 ∧
      HC Tryz.prog 62 #[v] h1 fun v2 h2 => Keep h1.size h1 h2 ∧ ∃ a c K, Srt K ∧ (∀ q, q ∈ K ↔ q ∈ mKeys m) ∧ K.length = m.length ∧ v2 = .slice a K.length c ∧ Sl StrE h2 a K.length K := by
  refine ⟨fun w hw => ?_⟩
  subst hw
  refine (callsIn_wide.1 (Tryz.maps_KeysN (some r) w)).mono ?_
  rintro e w' ⟨rfl, rfl⟩
  refine ⟨_, rfl, Sane.push rfl, Keep.push _ _ _ (Nat.le_refl _), ⟨fun w2 hw2 => ?_⟩⟩
  obtain ⟨w0, hh, rfl⟩ : ∃ w0 : World, w0.heap = w.heap ∧ w2 = w0.alloc (.cells #[.map (some r)] 91) :=
    ⟨{ w2 with heap := w.heap }, rfl, by cases w2; simp only [World.alloc] at hw2 ⊢; subst hw2; rfl⟩
  rw [← hh] at hma ⊢
  obtain ⟨D, hown, hp0, hsz⟩ := owns_of (w := w0) hma hbd hn
  refine (callsIn_wide.1 (Tryz.slices_Sorted_keysN (H := Unit) r m.length D readN w0 hown (by rw [hsz]; unfold maxLen; omega) (by rw [hsz]; omega))).mono ?_
  rintro e w' ⟨v, ss, rfl, hp, hrow, hnil, hb⟩
  have hnd : (mKeys m).Nodup := by obtain ⟨_, _, _, _, h, _⟩ := hma; exact h
  obtain ⟨s1, s2, s3⟩ := sorted_keys hnd (hp.trans hp0)
  have hl : ss.length = (ss.mergeSort fun x y => decide (x ≤ y)).length := by simp
  rw [hl] at hrow
  obtain ⟨a, c, rfl, hsl⟩ := sl_of_row hrow
  have kp := Keep.push w0.heap.size w0.heap (.cells #[.map (some r)] 91) (Nat.le_refl _)
  refine ⟨_, rfl, ⟨hb.tape, hb.os, hb.output, hb.size, fun k o hk _ => (hb.block k (Array.getElem?_eq_some_iff.1 hk).1).trans hk⟩, (by show Keep (w.heap.push _).size (w.heap.push _) _; rw [← hh]; exact ⟨hb.size, hb.block⟩), a, c, _, s1, s2, s3, ?_, ?_⟩
  · simp
  · simpa using hsl
end Go.Proofs.YthkhaobmhheoaaaGreat
end
