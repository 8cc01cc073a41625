/-
  Texts of this seat, laid one behind the other: PgN. Conditions: none.
-/
import Derived.Test.YthkhaobmhheoaaaGreatZD
import Derived.Maps.Own
import Derived.Shelf.SlIterI.Nil
import Derived.Shelf.SortM.Plain
import Derived.Shelf.SortM.SortNone
import Derived.Ground.GgzProg
import Derived.Ground.SlgmProg
import Derived.Test.YthkhaobmhheoaaaGreatProg
import Derived.Test.YthkhaobmhheoaaaGreatZV
import Derived.Test.YthkhaobmhheoaaaGreatZP
section
set_option linter.unusedVariables false
set_option linter.unusedSimpArgs false
namespace Go.Proofs.YthkhaobmhheoaaaGreat
open Go Go.Vc Go.Proofs Go.Maps Go.Dk
open Go.Pg (SrtI)

/-- bytes by their address, length and room, and what they read as. -/
structure Bv where
  a : Option Addr
  n : Nat
  c : Nat
  s : Str
def Bv.val (v : Bv) : Value := .slice v.a v.n v.c
theorem undMi : Tryz.prog.underlying 48 = some (.map 3 22) := by kernel_rfl
def Mi : Mk Tryz.prog 48 3 22 Int Bv := intMk Tryz.prog 48 3 22 .i64 Bv Bv.val undMi undI

def readZ (_ : Value) : Option (DataW Unit × List MemPlace) := some (.nil, [])
abbrev I64 (k : Int) : Prop := -9223372036854775808 ≤ k ∧ k < 9223372036854775808
theorem key_int {k : Int} (h : I64 k) : keyOf Tryz.prog 3 (.int .i64 k) = some (.int .i64 k) := keyOf_int_mk undI (by simp [Lit.wf, IntKind.min, IntKind.max, IntKind.signed, IntKind.bits]; omega)
theorem owns_ofZ {w : World} {r : Nat} {m : List (Int × Bv)} (hma : MapAt Mi w.heap r m) (hbd : ∀ s ∈ mKeys m, I64 s) (hl : m.length ≤ 1073741824) :
    ∃ D, w.ownsMap Tryz.prog 3 readZ r m.length D ∧ (intKeys D).Perm (mKeys m) ∧ Maps.size D = m.length := by
  obtain ⟨es, clock, hb, he, hn, hc, hbn⟩ := hma
  have hlen : es.size = m.length := by have := congrArg List.length he; simpa using this
  have hkeys : es.toList.map (·.key) = (mKeys m).map (Value.int .i64) := by
    have := congrArg (List.map Prod.fst) he
    rw [List.map_map, List.map_map] at this
    unfold mKeys
    rw [List.map_map]
    exact this
  have hrd : ∀ x ∈ es.toList, ∃ s ∈ mKeys m, x.key = .int .i64 s ∧ Go.WideElems.rd Tryz.prog 3 readZ x = some (.int .i64 s, .nil) := fun x hx => by
    have hm : x.key ∈ es.toList.map (·.key) := List.mem_map_of_mem hx
    rw [hkeys] at hm
    obtain ⟨s, hs, e⟩ := List.mem_map.1 hm
    refine ⟨s, hs, e.symm, ?_⟩
    unfold Go.WideElems.rd
    rw [← e, key_int (hbd s hs)]
    rfl
  refine ⟨_, ⟨es, clock, hb, ⟨by unfold maxLen; omega, ⟨hc, hbn, ?_⟩, fun x hx => ?_⟩, by omega, rfl⟩, ?_, ?_⟩
  · rw [hkeys]
    exact hn.map _ (fun a b h e => h (by cases e; rfl))
  · obtain ⟨s, _, _, h⟩ := hrd x hx; exact ⟨_, h⟩
  · have h1 := (Go.WideShapes.sorted_perm (es.toList.map (Go.WideElems.rg Tryz.prog 3 readZ))).map (fun p => Go.intOf p.1)
    refine h1.trans (List.Perm.of_eq ?_)
    rw [List.map_map]
    have : mKeys m = (es.toList.map (·.key)).map (fun v => match v with | .int _ s => s | _ => 0) := by
      rw [hkeys, List.map_map]
      exact (List.map_id _).symm
    rw [this, List.map_map]
    refine List.map_congr_left fun x hx => ?_
    obtain ⟨s, _, e, h⟩ := hrd x hx
    simp only [Function.comp, Go.WideElems.rg, h, e, Option.getD_some]
    rfl
  · show (List.foldr DataW.insert [] _).length = _
    rw [(Go.WideShapes.sorted_perm _).length_eq, List.length_map, Array.length_toList]; exact hlen



theorem sorted_keysZ {m : List (Int × Bv)} {ss : List Int} (hn : (mKeys m).Nodup) (hp : ss.Perm (mKeys m)) :
    SrtI (ss.mergeSort fun x y => decide (x ≤ y)) ∧ (∀ q, q ∈ (ss.mergeSort fun x y => decide (x ≤ y)) ↔ q ∈ mKeys m) ∧ (ss.mergeSort fun x y => decide (x ≤ y)).length = m.length := by
  have hperm := (List.mergeSort_perm ss fun x y => decide (x ≤ y)).trans hp
  have hnd' : (ss.mergeSort fun x y => decide (x ≤ y)).Nodup := (hperm.nodup_iff).2 hn
  have hsorted := List.pairwise_mergeSort (le := fun x y : Int => decide (x ≤ y)) (fun a b c h1 h2 => by simp at *; omega) (fun a b => by simp; omega) ss
  refine ⟨?_, fun q => hperm.mem_iff, ?_⟩
  · refine (hsorted.and hnd').imp fun {a b} h => ?_
    obtain ⟨h1, h2⟩ := h
    simp only [decide_eq_true_eq] at h1
    omega
  · rw [hperm.length_eq]; simp [mKeys]
end Go.Proofs.YthkhaobmhheoaaaGreat
namespace Go.Proofs
open Go.RowKit Go.Maps Go.Sort Go.Shelf

section
open Go.Shelf
def Tryz.keysZ_ren : Go.Shelf.Ren := ⟨fun | 7 => 67 | 10 => 107 | n => n, fun | 23 => 48 | 26 => 3 | 3 => 22 | 28 => 123 | 0 => 0 | 27 => 122 | 33 => 165 | 4 => 4 | n => n, fun | n => n⟩
theorem Tryz.keysZ : Go.Proofs.SlLaysZI.n7 Tryz.prog Tryz.keysZ_ren := {
  mixed := by kernel_rfl
  f7 := ⟨Tryz.f67.name, by decide, Tryz.func67.trans (congrArg some (by kernel_rfl))⟩
  f10 := ⟨Tryz.f107.name, by decide, Tryz.func107.trans (congrArg some (by kernel_rfl))⟩
  t0 := Tryz.underlying0
  a0 := Tryz.isAgg0
  z0 := Tryz.sizeOf0
  v0 := Tryz.zeroValue0
  t4 := Tryz.underlying4
  a4 := Tryz.isAgg4
  z4 := Tryz.sizeOf4
  v4 := Tryz.zeroValue4
  t23 := Tryz.underlying48
  a23 := Tryz.isAgg48
  z23 := Tryz.sizeOf48
  v23 := Tryz.zeroValue48
  t26 := Tryz.underlying3
  a26 := Tryz.isAgg3
  z26 := Tryz.sizeOf3
  v26 := Tryz.zeroValue3
  t27 := Tryz.underlying122
  a27 := Tryz.isAgg122
  z27 := Tryz.sizeOf122
  v27 := Tryz.zeroValue122
  t28 := Tryz.underlying123
  a28 := Tryz.isAgg123
  z28 := Tryz.sizeOf123
  v28 := Tryz.zeroValue123
  t33 := Tryz.underlying165
  a33 := Tryz.isAgg165
  z33 := Tryz.sizeOf165
  v33 := Tryz.zeroValue165 }
end
section
open Go.Shelf
def Tryz.sortedZ_ren : Go.Shelf.Ren := ⟨fun | 6 => 66 | 8 => 105 | 9 => 106 | 11 => 135 | 13 => 134 | 12 => 136 | 23 => 157 | 24 => 158 | 14 => 159 | 15 => 160 | 16 => 161 | 17 => 162 | 18 => 163 | 19 => 164 | 20 => 165 | 21 => 166 | 22 => 167 | 25 => 184 | 26 => 180 | 27 => 181 | 28 => 185 | 29 => 186 | 30 => 187 | 31 => 194 | n => n, fun | 26 => 3 | 28 => 123 | 24 => 43 | 0 => 0 | 3 => 3 | 37 => 75 | 48 => 85 | 50 => 45 | 4 => 4 | 40 => 205 | 39 => 204 | 45 => 131 | 5 => 5 | 9 => 9 | 51 => 229 | 55 => 232 | 57 => 240 | 58 => 241 | 33 => 165 | n => n, fun | n => n⟩
theorem Tryz.sortedZ : Go.Proofs.SlLaysZI.n6 Tryz.prog Tryz.sortedZ_ren := {
  mixed := by kernel_rfl
  f6 := ⟨Tryz.f66.name, by decide, Tryz.func66.trans (congrArg some (by kernel_rfl))⟩
  f8 := ⟨Tryz.f105.name, by decide, Tryz.func105.trans (congrArg some (by kernel_rfl))⟩
  f11 := ⟨Tryz.f135.name, by decide, Tryz.func135.trans (congrArg some (by kernel_rfl))⟩
  t0 := Tryz.underlying0
  a0 := Tryz.isAgg0
  z0 := Tryz.sizeOf0
  v0 := Tryz.zeroValue0
  t24 := Tryz.underlying43
  a24 := Tryz.isAgg43
  z24 := Tryz.sizeOf43
  v24 := Tryz.zeroValue43
  t26 := Tryz.underlying3
  a26 := Tryz.isAgg3
  z26 := Tryz.sizeOf3
  v26 := Tryz.zeroValue3
  t28 := Tryz.underlying123
  a28 := Tryz.isAgg123
  z28 := Tryz.sizeOf123
  v28 := Tryz.zeroValue123
  i26 := by kernel_rfl }
end
section
open Go.Shelf
def Tryz.sortZ_ren : Go.Shelf.Ren := ⟨fun | 5 => 106 | 8 => 134 | 7 => 136 | 19 => 157 | 20 => 158 | 10 => 159 | 11 => 160 | 12 => 161 | 13 => 162 | 14 => 163 | 15 => 164 | 16 => 165 | 17 => 166 | 18 => 167 | 30 => 184 | 31 => 180 | 32 => 181 | 33 => 185 | 34 => 186 | 35 => 187 | 40 => 194 | n => n, fun | 23 => 43 | 25 => 3 | 3 => 3 | 32 => 75 | 22 => 43 | 0 => 0 | 44 => 85 | 46 => 45 | 4 => 4 | 36 => 205 | 35 => 204 | 41 => 131 | 5 => 5 | 9 => 9 | 53 => 229 | 57 => 232 | 63 => 240 | 64 => 241 | n => n, fun | n => n⟩
theorem Tryz.sortZ : Go.Proofs.SlLaysM.n5 Tryz.prog Tryz.sortZ_ren := {
  mixed := by kernel_rfl
  f5 := ⟨Tryz.f106.name, by decide, Tryz.func106.trans (congrArg some (by kernel_rfl))⟩
  f7 := ⟨Tryz.f136.name, by decide, Tryz.func136.trans (congrArg some (by kernel_rfl))⟩
  f8 := Tryz.func134.trans (congrArg some (by kernel_rfl))
  f10 := ⟨Tryz.f159.name, by decide, Tryz.func159.trans (congrArg some (by kernel_rfl))⟩
  f11 := ⟨Tryz.f160.name, by decide, Tryz.func160.trans (congrArg some (by kernel_rfl))⟩
  f12 := ⟨Tryz.f161.name, by decide, Tryz.func161.trans (congrArg some (by kernel_rfl))⟩
  f13 := ⟨Tryz.f162.name, by decide, Tryz.func162.trans (congrArg some (by kernel_rfl))⟩
  f14 := ⟨Tryz.f163.name, by decide, Tryz.func163.trans (congrArg some (by kernel_rfl))⟩
  f15 := ⟨Tryz.f164.name, by decide, Tryz.func164.trans (congrArg some (by kernel_rfl))⟩
  f16 := ⟨Tryz.f165.name, by decide, Tryz.func165.trans (congrArg some (by kernel_rfl))⟩
  f17 := ⟨Tryz.f166.name, by decide, Tryz.func166.trans (congrArg some (by kernel_rfl))⟩
  f18 := ⟨Tryz.f167.name, by decide, Tryz.func167.trans (congrArg some (by kernel_rfl))⟩
  f19 := Tryz.func157.trans (congrArg some (by kernel_rfl))
  f20 := Tryz.func158.trans (congrArg some (by kernel_rfl))
  f30 := ⟨Tryz.f184.name, by decide, Tryz.func184.trans (congrArg some (by kernel_rfl))⟩
  f31 := Tryz.func180.trans (congrArg some (by kernel_rfl))
  f32 := Tryz.func181.trans (congrArg some (by kernel_rfl))
  f33 := ⟨Tryz.f185.name, by decide, Tryz.func185.trans (congrArg some (by kernel_rfl))⟩
  f34 := ⟨Tryz.f186.name, by decide, Tryz.func186.trans (congrArg some (by kernel_rfl))⟩
  f35 := ⟨Tryz.f187.name, by decide, Tryz.func187.trans (congrArg some (by kernel_rfl))⟩
  f40 := ⟨Tryz.f194.name, by decide, Tryz.func194.trans (congrArg some (by kernel_rfl))⟩
  t0 := Tryz.underlying0
  a0 := Tryz.isAgg0
  z0 := Tryz.sizeOf0
  v0 := Tryz.zeroValue0
  t3 := Tryz.underlying3
  a3 := Tryz.isAgg3
  z3 := Tryz.sizeOf3
  v3 := Tryz.zeroValue3
  t4 := Tryz.underlying4
  a4 := Tryz.isAgg4
  z4 := Tryz.sizeOf4
  v4 := Tryz.zeroValue4
  t5 := Tryz.underlying5
  a5 := Tryz.isAgg5
  z5 := Tryz.sizeOf5
  v5 := Tryz.zeroValue5
  t9 := Tryz.underlying9
  a9 := Tryz.isAgg9
  z9 := Tryz.sizeOf9
  v9 := Tryz.zeroValue9
  t22 := Tryz.underlying43
  a22 := Tryz.isAgg43
  z22 := Tryz.sizeOf43
  v22 := Tryz.zeroValue43
  t23 := Tryz.underlying43
  a23 := Tryz.isAgg43
  z23 := Tryz.sizeOf43
  v23 := Tryz.zeroValue43
  t25 := Tryz.underlying3
  a25 := Tryz.isAgg3
  z25 := Tryz.sizeOf3
  v25 := Tryz.zeroValue3
  t32 := Tryz.underlying75
  a32 := Tryz.isAgg75
  z32 := Tryz.sizeOf75
  v32 := Tryz.zeroValue75
  t35 := Tryz.underlying204
  a35 := Tryz.isAgg204
  z35 := Tryz.sizeOf204
  v35 := Tryz.zeroValue204
  t36 := Tryz.underlying205
  a36 := Tryz.isAgg205
  z36 := Tryz.sizeOf205
  v36 := Tryz.zeroValue205
  t41 := Tryz.underlying131
  a41 := Tryz.isAgg131
  z41 := Tryz.sizeOf131
  v41 := Tryz.zeroValue131
  t44 := Tryz.underlying85
  a44 := Tryz.isAgg85
  z44 := Tryz.sizeOf85
  v44 := Tryz.zeroValue85
  t46 := Tryz.underlying45
  a46 := Tryz.isAgg45
  z46 := Tryz.sizeOf45
  v46 := Tryz.zeroValue45
  t53 := Tryz.underlying229
  a53 := Tryz.isAgg229
  z53 := Tryz.sizeOf229
  v53 := Tryz.zeroValue229
  t57 := Tryz.underlying232
  a57 := Tryz.isAgg232
  z57 := Tryz.sizeOf232
  v57 := Tryz.zeroValue232
  t63 := Tryz.underlying240
  a63 := Tryz.isAgg240
  z63 := Tryz.sizeOf240
  v63 := Tryz.zeroValue240
  t64 := Tryz.underlying241
  a64 := Tryz.isAgg241
  z64 := Tryz.sizeOf241
  v64 := Tryz.zeroValue241 }
end

theorem Tryz.sortsZ (m : Nat) : AnyZI.SortsIn Tryz.prog Tryz.sortedZ_ren Fence.wide m :=
  ⟨fun blk off cap ss W hH hblk hsz => callsIn_wide.2 (AnyM.slices_Sort_int Tryz.sortZ blk off cap ss W hH hblk hsz),
   fun p cap W => callsIn_wide.2 (AnyM.slices_Sort_int_none Tryz.sortZ p cap W)⟩

theorem Tryz.maps_KeysZ (mb : Option Nat) (W : World) : CallsIn Fence.wide 5 Tryz.prog 67 #[.map mb] W fun e w' => e = .returned (.func (.func 107) #[] #[.pointer (some ⟨W.heap.size, 0, none⟩)]) ∧ w' = W.alloc (.cells #[.map mb] 48) :=
  AnyZI.keys_in Tryz.keysZ Fence.wide 5 trivial rfl mb W

set_option maxHeartbeats 1000000 in
theorem Tryz.slices_Sorted_keysZ {H : Type} (b nn : Nat) (D0 : DataW H) (R : Value → Option (DataW H × List MemPlace)) (w : World) (hown : w.ownsMap Tryz.prog 3 R b nn D0) (hmax : Maps.size D0 ≤ maxLen) (hbytes : Maps.size D0 * 8 ≤ 140737488355328) :
    CallsIn Fence.wide 5 Tryz.prog 66 #[.func (.func 107) #[] #[.pointer (some ⟨w.heap.size, 0, none⟩)]] (w.alloc (.cells #[.map (some b)] 48)) fun e w' => ∃ (v : Value) (ss : List Int), e = .returned v ∧ ss.Perm (intKeys D0) ∧
      w'.ownsRow (w.alloc (.cells #[.map (some b)] 48)).heap.size 3 1 v ss.length ((ss.mergeSort (fun x y => decide (x ≤ y))).map encZ) ∧ (v = .slice none 0 0 ↔ ss = []) ∧ Below (w.alloc (.cells #[.map (some b)] 48)).heap.size (w.alloc (.cells #[.map (some b)] 48)) w' := by
  have hbl := hown.lt
  have hseq : SeqGives Fence.wide 2 Tryz.prog 107 #[.pointer (some ⟨w.heap.size, 0, none⟩)] encZ (fun ss => ss.Perm (intKeys D0)) (Maps.size D0) (w.alloc (.cells #[.map (some b)] 48)) :=
    AnyZI.keys_gives (ρ := Tryz.keysZ_ren) { Tryz.keysZ with } Fence.wide _ trivial rfl (by omega) w.heap.size b nn D0 _ (by simp) (by simp) (by
      obtain ⟨es, clock, hb, Ft, hs, hD⟩ := hown
      exact ⟨es, clock, (Below.heap_alloc _ _ b hbl).trans hb, Ft, hs, hD⟩)
  exact AnyZI.sorted_in Tryz.sortedZ Fence.wide 5 trivial trivial trivial trivial rfl (by omega) (Tryz.sortsZ _) (enters_of Tryz.func106 (by kernel_rfl) rfl) 107 #[.pointer (some ⟨w.heap.size, 0, none⟩)] trivial (enters_of Tryz.func107 (by kernel_rfl) rfl) _ _ hmax hbytes _ hseq

end Go.Proofs
set_option linter.unusedVariables false
set_option linter.unusedSimpArgs false
namespace Go.Proofs.YthkhaobmhheoaaaGreat
open Go Go.Vc Go.Proofs Go.Maps Go.Dk
open Go.Pg (SrtI)

theorem sl_of_rowZ {w : World} {base : Nat} {v : Value} {ls : List Int} (h : w.ownsRow base 3 1 v ls.length (ls.map encZ)) :
    ∃ a c, v = .slice a ls.length c ∧ (∀ q, blk a q → base ≤ q) ∧ Sl (IntE .i64) w.heap a ls.length ls := by
  obtain ⟨_, ⟨rfl, h0⟩ | ⟨g, cap, cur, rfl, hbase, hb, _, _, _, ht⟩⟩ := h
  · have : ls = [] := List.eq_nil_of_length_eq_zero h0
    subst this
    exact ⟨_, _, rfl, fun q ⟨p, hp, _⟩ => (by cases hp), Sl.nil _ _⟩
  · refine ⟨_, _, rfl, fun q ⟨p, hp, hq⟩ => (by cases hp; exact hq ▸ hbase), rfl, .inr ⟨_, rfl, fun i x hx j u hu => ?_⟩⟩
    have hi := (List.getElem?_eq_some_iff.1 hx).1
    match j, hu with
    | 0, hu =>
      simp [IntE] at hu
      subst hu
      rw [Addr.add_row, cell_at hb]
      have : (ls.map encZ)[i]? = some (encZ x) := by rw [List.getElem?_map, hx]; rfl
      rw [← ht, List.getElem?_take, if_pos (by omega)] at this
      have e : 0 + (i * (IntE .i64).sz + 0) = i := by show 0 + (i * 1 + 0) = i; omega
      rw [e, ← Array.getElem?_toList]
      exact this
    | j + 1, hu => simp [IntE] at hu

theorem sortedKeysZ {h : Heap} {r : Nat} {m : List (Int × Bv)} (hma : MapAt Mi h r m) (hn : m.length ≤ 1073741824) (hbd : ∀ s ∈ mKeys m, I64 s) :
    HC Tryz.prog 67 #[.map (some r)] h fun v h1 => Keep h.size h h1 ∧
      HC Tryz.prog 66 #[v] h1 fun v2 h2 => Keep h1.size h1 h2 ∧ ∃ a c K, SrtI K ∧ (∀ q, q ∈ K ↔ q ∈ mKeys m) ∧ K.length = m.length ∧ v2 = .slice a K.length c ∧ (∀ q, blk a q → h.size ≤ q) ∧ Sl (IntE .i64) h2 a K.length K := by
  refine ⟨fun w hw => ?_⟩
  subst hw
  refine (callsIn_wide.1 (Tryz.maps_KeysZ (some r) w)).mono ?_
  rintro e w' ⟨rfl, rfl⟩
  refine ⟨_, rfl, Sane.push rfl, Keep.push _ _ _ (Nat.le_refl _), ⟨fun w2 hw2 => ?_⟩⟩
  obtain ⟨w0, hh, rfl⟩ : ∃ w0 : World, w0.heap = w.heap ∧ w2 = w0.alloc (.cells #[.map (some r)] 48) :=
    ⟨{ w2 with heap := w.heap }, rfl, by cases w2; simp only [World.alloc] at hw2 ⊢; subst hw2; rfl⟩
  rw [← hh] at hma ⊢
  obtain ⟨D, hown, hp0, hsz⟩ := owns_ofZ (w := w0) hma hbd hn
  refine (callsIn_wide.1 (Tryz.slices_Sorted_keysZ (H := Unit) r m.length D readZ w0 hown (by rw [hsz]; unfold maxLen; omega) (by rw [hsz]; omega))).mono ?_
  rintro e w' ⟨v, ss, rfl, hp, hrow, hnil, hb⟩
  have hnd : (mKeys m).Nodup := by obtain ⟨_, _, _, _, h, _⟩ := hma; exact h
  obtain ⟨s1, s2, s3⟩ := sorted_keysZ hnd (hp.trans hp0)
  have hl : ss.length = (ss.mergeSort fun x y => decide (x ≤ y)).length := by simp
  rw [hl] at hrow
  obtain ⟨a, c, rfl, hblk, hsl⟩ := sl_of_rowZ hrow
  refine ⟨_, rfl, ⟨hb.tape, hb.os, hb.output, hb.size, fun k o hk _ => (hb.block k (Array.getElem?_eq_some_iff.1 hk).1).trans hk⟩, (by show Keep (w.heap.push _).size (w.heap.push _) _; rw [← hh]; exact ⟨hb.size, hb.block⟩), a, c, _, s1, s2, s3, rfl, fun q hq => (by have := hblk q hq; simp only [World.alloc, Array.size_push] at this; omega), hsl⟩
end Go.Proofs.YthkhaobmhheoaaaGreat
end
