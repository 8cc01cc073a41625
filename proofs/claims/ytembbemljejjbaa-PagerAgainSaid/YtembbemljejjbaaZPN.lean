/-
  Texts of this seat, laid one behind the other: PgN. Conditions: none.
-/
import Derived.Test.YtembbemljejjbaaZD
import Derived.Maps.Own
import Derived.Shelf.SlIterI.Nil
import Derived.Shelf.SortM.Plain
import Derived.Shelf.SortM.SortNone
import Derived.Ground.GgzProg
import Derived.Ground.SlgmProg
import Derived.Test.YtembbemljejjbaaProg
import Derived.Test.YtembbemljejjbaaZV
import Derived.Test.YtembbemljejjbaaZP
section
set_option linter.unusedVariables false
set_option linter.unusedSimpArgs false
namespace Go.Proofs.Ytembbemljejjbaa
open Go Go.Vc Go.Proofs Go.Maps Go.Dk
open Go.Pg (SrtI)

/-- bytes by their address, length and room, and what they read as. -/
structure Bv where
  a : Option Addr
  n : Nat
  c : Nat
  s : Str
def Bv.val (v : Bv) : Value := .slice v.a v.n v.c
theorem undMi : Try.prog.underlying 74 = some (.map 3 22) := by kernel_rfl
def Mi : Mk Try.prog 74 3 22 Int Bv := intMk Try.prog 74 3 22 .i64 Bv Bv.val undMi undI

def readZ (_ : Value) : Option (DataW Unit × List MemPlace) := some (.nil, [])
abbrev I64 (k : Int) : Prop := -9223372036854775808 ≤ k ∧ k < 9223372036854775808
theorem key_int {k : Int} (h : I64 k) : keyOf Try.prog 3 (.int .i64 k) = some (.int .i64 k) := keyOf_int_mk undI (by simp [Lit.wf, IntKind.min, IntKind.max, IntKind.signed, IntKind.bits]; omega)
theorem owns_ofZ {w : World} {r : Nat} {m : List (Int × Bv)} (hma : MapAt Mi w.heap r m) (hbd : ∀ s ∈ mKeys m, I64 s) (hl : m.length ≤ 1073741824) :
    ∃ D, w.ownsMap Try.prog 3 readZ r m.length D ∧ (intKeys D).Perm (mKeys m) ∧ Maps.size D = m.length := by
  obtain ⟨es, clock, hb, he, hn, hc, hbn⟩ := hma
  have hlen : es.size = m.length := by have := congrArg List.length he; simpa using this
  have hkeys : es.toList.map (·.key) = (mKeys m).map (Value.int .i64) := by
    have := congrArg (List.map Prod.fst) he
    rw [List.map_map, List.map_map] at this
    unfold mKeys
    rw [List.map_map]
    exact this
  have hrd : ∀ x ∈ es.toList, ∃ s ∈ mKeys m, x.key = .int .i64 s ∧ Go.WideElems.rd Try.prog 3 readZ x = some (.int .i64 s, .nil) := fun x hx => by
    have hm : x.key ∈ es.toList.map (·.key) := List.mem_map_of_mem hx
    rw [hkeys] at hm
    obtain ⟨s, hs, e⟩ := List.mem_map.1 hm
    refine ⟨s, hs, e.symm, ?_⟩
    unfold Go.WideElems.rd
    rw [← e, key_int (hbd s hs)]
    rfl
  refine ⟨_, ⟨es, clock, hb, ⟨by unfold maxLen; omega, ⟨hc, hbn, ?_⟩, fun x hx => ?_⟩, by omega, rfl⟩, ?_, ?_⟩
  · rw [hkeys]
    exact hn.map _ (fun a b h e => h (by cases e; rfl))
  · obtain ⟨s, _, _, h⟩ := hrd x hx; exact ⟨_, h⟩
  · have h1 := (Go.WideShapes.sorted_perm (es.toList.map (Go.WideElems.rg Try.prog 3 readZ))).map (fun p => Go.intOf p.1)
    refine h1.trans (List.Perm.of_eq ?_)
    rw [List.map_map]
    have : mKeys m = (es.toList.map (·.key)).map (fun v => match v with | .int _ s => s | _ => 0) := by
      rw [hkeys, List.map_map]
      exact (List.map_id _).symm
    rw [this, List.map_map]
    refine List.map_congr_left fun x hx => ?_
    obtain ⟨s, _, e, h⟩ := hrd x hx
    simp only [Function.comp, Go.WideElems.rg, h, e, Option.getD_some]
    rfl
  · show (List.foldr DataW.insert [] _).length = _
    rw [(Go.WideShapes.sorted_perm _).length_eq, List.length_map, Array.length_toList]; exact hlen



theorem sorted_keysZ {m : List (Int × Bv)} {ss : List Int} (hn : (mKeys m).Nodup) (hp : ss.Perm (mKeys m)) :
    SrtI (ss.mergeSort fun x y => decide (x ≤ y)) ∧ (∀ q, q ∈ (ss.mergeSort fun x y => decide (x ≤ y)) ↔ q ∈ mKeys m) ∧ (ss.mergeSort fun x y => decide (x ≤ y)).length = m.length := by
  have hperm := (List.mergeSort_perm ss fun x y => decide (x ≤ y)).trans hp
  have hnd' : (ss.mergeSort fun x y => decide (x ≤ y)).Nodup := (hperm.nodup_iff).2 hn
  have hsorted := List.pairwise_mergeSort (le := fun x y : Int => decide (x ≤ y)) (fun a b c h1 h2 => by simp at *; omega) (fun a b => by simp; omega) ss
  refine ⟨?_, fun q => hperm.mem_iff, ?_⟩
  · refine (hsorted.and hnd').imp fun {a b} h => ?_
    obtain ⟨h1, h2⟩ := h
    simp only [decide_eq_true_eq] at h1
    omega
  · rw [hperm.length_eq]; simp [mKeys]
end Go.Proofs.Ytembbemljejjbaa
namespace Go.Proofs
open Go.RowKit Go.Maps Go.Sort Go.Shelf

section
open Go.Shelf
def Try.keysZ_ren : Go.Shelf.Ren := ⟨fun | 7 => 83 | 10 => 115 | n => n, fun | 23 => 74 | 26 => 3 | 3 => 22 | 28 => 126 | 0 => 0 | 27 => 125 | 33 => 156 | 4 => 4 | n => n, fun | n => n⟩
theorem Try.keysZ : Go.Proofs.SlLaysZI.n7 Try.prog Try.keysZ_ren := {
  mixed := by kernel_rfl
  f7 := ⟨Try.f83.name, by decide, Try.func83.trans (congrArg some (by kernel_rfl))⟩
  f10 := ⟨Try.f115.name, by decide, Try.func115.trans (congrArg some (by kernel_rfl))⟩
  t0 := Try.underlying0
  a0 := Try.isAgg0
  z0 := Try.sizeOf0
  v0 := Try.zeroValue0
  t4 := Try.underlying4
  a4 := Try.isAgg4
  z4 := Try.sizeOf4
  v4 := Try.zeroValue4
  t23 := Try.underlying74
  a23 := Try.isAgg74
  z23 := Try.sizeOf74
  v23 := Try.zeroValue74
  t26 := Try.underlying3
  a26 := Try.isAgg3
  z26 := Try.sizeOf3
  v26 := Try.zeroValue3
  t27 := Try.underlying125
  a27 := Try.isAgg125
  z27 := Try.sizeOf125
  v27 := Try.zeroValue125
  t28 := Try.underlying126
  a28 := Try.isAgg126
  z28 := Try.sizeOf126
  v28 := Try.zeroValue126
  t33 := Try.underlying156
  a33 := Try.isAgg156
  z33 := Try.sizeOf156
  v33 := Try.zeroValue156 }
end
section
open Go.Shelf
def Try.sortedZ_ren : Go.Shelf.Ren := ⟨fun | 6 => 82 | 8 => 113 | 9 => 114 | 11 => 128 | 13 => 121 | 12 => 129 | 23 => 139 | 24 => 140 | 14 => 142 | 15 => 143 | 16 => 144 | 17 => 145 | 18 => 146 | 19 => 147 | 20 => 148 | 21 => 149 | 22 => 150 | 25 => 157 | 26 => 152 | 27 => 153 | 28 => 158 | 29 => 159 | 30 => 160 | 31 => 162 | n => n, fun | 26 => 3 | 28 => 126 | 24 => 31 | 0 => 0 | 3 => 3 | 37 => 144 | 48 => 152 | 50 => 34 | 4 => 4 | 40 => 172 | 39 => 171 | 45 => 103 | 5 => 5 | 9 => 9 | 51 => 186 | 55 => 189 | 57 => 193 | 58 => 194 | 33 => 156 | n => n, fun | n => n⟩
theorem Try.sortedZ : Go.Proofs.SlLaysZI.n6 Try.prog Try.sortedZ_ren := {
  mixed := by kernel_rfl
  f6 := ⟨Try.f82.name, by decide, Try.func82.trans (congrArg some (by kernel_rfl))⟩
  f8 := ⟨Try.f113.name, by decide, Try.func113.trans (congrArg some (by kernel_rfl))⟩
  f11 := ⟨Try.f128.name, by decide, Try.func128.trans (congrArg some (by kernel_rfl))⟩
  t0 := Try.underlying0
  a0 := Try.isAgg0
  z0 := Try.sizeOf0
  v0 := Try.zeroValue0
  t24 := Try.underlying31
  a24 := Try.isAgg31
  z24 := Try.sizeOf31
  v24 := Try.zeroValue31
  t26 := Try.underlying3
  a26 := Try.isAgg3
  z26 := Try.sizeOf3
  v26 := Try.zeroValue3
  t28 := Try.underlying126
  a28 := Try.isAgg126
  z28 := Try.sizeOf126
  v28 := Try.zeroValue126
  i26 := by kernel_rfl }
end
section
open Go.Shelf
def Try.sortZ_ren : Go.Shelf.Ren := ⟨fun | 5 => 114 | 8 => 121 | 7 => 129 | 19 => 139 | 20 => 140 | 10 => 142 | 11 => 143 | 12 => 144 | 13 => 145 | 14 => 146 | 15 => 147 | 16 => 148 | 17 => 149 | 18 => 150 | 30 => 157 | 31 => 152 | 32 => 153 | 33 => 158 | 34 => 159 | 35 => 160 | 40 => 162 | n => n, fun | 23 => 31 | 25 => 3 | 3 => 3 | 32 => 144 | 22 => 31 | 0 => 0 | 44 => 152 | 46 => 34 | 4 => 4 | 36 => 172 | 35 => 171 | 41 => 103 | 5 => 5 | 9 => 9 | 53 => 186 | 57 => 189 | 63 => 193 | 64 => 194 | n => n, fun | n => n⟩
theorem Try.sortZ : Go.Proofs.SlLaysM.n5 Try.prog Try.sortZ_ren := {
  mixed := by kernel_rfl
  f5 := ⟨Try.f114.name, by decide, Try.func114.trans (congrArg some (by kernel_rfl))⟩
  f7 := ⟨Try.f129.name, by decide, Try.func129.trans (congrArg some (by kernel_rfl))⟩
  f8 := Try.func121.trans (congrArg some (by kernel_rfl))
  f10 := ⟨Try.f142.name, by decide, Try.func142.trans (congrArg some (by kernel_rfl))⟩
  f11 := ⟨Try.f143.name, by decide, Try.func143.trans (congrArg some (by kernel_rfl))⟩
  f12 := ⟨Try.f144.name, by decide, Try.func144.trans (congrArg some (by kernel_rfl))⟩
  f13 := ⟨Try.f145.name, by decide, Try.func145.trans (congrArg some (by kernel_rfl))⟩
  f14 := ⟨Try.f146.name, by decide, Try.func146.trans (congrArg some (by kernel_rfl))⟩
  f15 := ⟨Try.f147.name, by decide, Try.func147.trans (congrArg some (by kernel_rfl))⟩
  f16 := ⟨Try.f148.name, by decide, Try.func148.trans (congrArg some (by kernel_rfl))⟩
  f17 := ⟨Try.f149.name, by decide, Try.func149.trans (congrArg some (by kernel_rfl))⟩
  f18 := ⟨Try.f150.name, by decide, Try.func150.trans (congrArg some (by kernel_rfl))⟩
  f19 := Try.func139.trans (congrArg some (by kernel_rfl))
  f20 := Try.func140.trans (congrArg some (by kernel_rfl))
  f30 := ⟨Try.f157.name, by decide, Try.func157.trans (congrArg some (by kernel_rfl))⟩
  f31 := Try.func152.trans (congrArg some (by kernel_rfl))
  f32 := Try.func153.trans (congrArg some (by kernel_rfl))
  f33 := ⟨Try.f158.name, by decide, Try.func158.trans (congrArg some (by kernel_rfl))⟩
  f34 := ⟨Try.f159.name, by decide, Try.func159.trans (congrArg some (by kernel_rfl))⟩
  f35 := ⟨Try.f160.name, by decide, Try.func160.trans (congrArg some (by kernel_rfl))⟩
  f40 := ⟨Try.f162.name, by decide, Try.func162.trans (congrArg some (by kernel_rfl))⟩
  t0 := Try.underlying0
  a0 := Try.isAgg0
  z0 := Try.sizeOf0
  v0 := Try.zeroValue0
  t3 := Try.underlying3
  a3 := Try.isAgg3
  z3 := Try.sizeOf3
  v3 := Try.zeroValue3
  t4 := Try.underlying4
  a4 := Try.isAgg4
  z4 := Try.sizeOf4
  v4 := Try.zeroValue4
  t5 := Try.underlying5
  a5 := Try.isAgg5
  z5 := Try.sizeOf5
  v5 := Try.zeroValue5
  t9 := Try.underlying9
  a9 := Try.isAgg9
  z9 := Try.sizeOf9
  v9 := Try.zeroValue9
  t22 := Try.underlying31
  a22 := Try.isAgg31
  z22 := Try.sizeOf31
  v22 := Try.zeroValue31
  t23 := Try.underlying31
  a23 := Try.isAgg31
  z23 := Try.sizeOf31
  v23 := Try.zeroValue31
  t25 := Try.underlying3
  a25 := Try.isAgg3
  z25 := Try.sizeOf3
  v25 := Try.zeroValue3
  t32 := Try.underlying144
  a32 := Try.isAgg144
  z32 := Try.sizeOf144
  v32 := Try.zeroValue144
  t35 := Try.underlying171
  a35 := Try.isAgg171
  z35 := Try.sizeOf171
  v35 := Try.zeroValue171
  t36 := Try.underlying172
  a36 := Try.isAgg172
  z36 := Try.sizeOf172
  v36 := Try.zeroValue172
  t41 := Try.underlying103
  a41 := Try.isAgg103
  z41 := Try.sizeOf103
  v41 := Try.zeroValue103
  t44 := Try.underlying152
  a44 := Try.isAgg152
  z44 := Try.sizeOf152
  v44 := Try.zeroValue152
  t46 := Try.underlying34
  a46 := Try.isAgg34
  z46 := Try.sizeOf34
  v46 := Try.zeroValue34
  t53 := Try.underlying186
  a53 := Try.isAgg186
  z53 := Try.sizeOf186
  v53 := Try.zeroValue186
  t57 := Try.underlying189
  a57 := Try.isAgg189
  z57 := Try.sizeOf189
  v57 := Try.zeroValue189
  t63 := Try.underlying193
  a63 := Try.isAgg193
  z63 := Try.sizeOf193
  v63 := Try.zeroValue193
  t64 := Try.underlying194
  a64 := Try.isAgg194
  z64 := Try.sizeOf194
  v64 := Try.zeroValue194 }
end

theorem Try.sortsZ (m : Nat) : AnyZI.SortsIn Try.prog Try.sortedZ_ren Fence.wide m :=
  ⟨fun blk off cap ss W hH hblk hsz => callsIn_wide.2 (AnyM.slices_Sort_int Try.sortZ blk off cap ss W hH hblk hsz),
   fun p cap W => callsIn_wide.2 (AnyM.slices_Sort_int_none Try.sortZ p cap W)⟩

theorem Try.maps_KeysZ (mb : Option Nat) (W : World) : CallsIn Fence.wide 5 Try.prog 83 #[.map mb] W fun e w' => e = .returned (.func (.func 115) #[] #[.pointer (some ⟨W.heap.size, 0, none⟩)]) ∧ w' = W.alloc (.cells #[.map mb] 74) :=
  AnyZI.keys_in Try.keysZ Fence.wide 5 trivial rfl mb W

set_option maxHeartbeats 1000000 in
theorem Try.slices_Sorted_keysZ {H : Type} (b nn : Nat) (D0 : DataW H) (R : Value → Option (DataW H × List MemPlace)) (w : World) (hown : w.ownsMap Try.prog 3 R b nn D0) (hmax : Maps.size D0 ≤ maxLen) (hbytes : Maps.size D0 * 8 ≤ 140737488355328) :
    CallsIn Fence.wide 5 Try.prog 82 #[.func (.func 115) #[] #[.pointer (some ⟨w.heap.size, 0, none⟩)]] (w.alloc (.cells #[.map (some b)] 74)) fun e w' => ∃ (v : Value) (ss : List Int), e = .returned v ∧ ss.Perm (intKeys D0) ∧
      w'.ownsRow (w.alloc (.cells #[.map (some b)] 74)).heap.size 3 1 v ss.length ((ss.mergeSort (fun x y => decide (x ≤ y))).map encZ) ∧ (v = .slice none 0 0 ↔ ss = []) ∧ Below (w.alloc (.cells #[.map (some b)] 74)).heap.size (w.alloc (.cells #[.map (some b)] 74)) w' := by
  have hbl := hown.lt
  have hseq : SeqGives Fence.wide 2 Try.prog 115 #[.pointer (some ⟨w.heap.size, 0, none⟩)] encZ (fun ss => ss.Perm (intKeys D0)) (Maps.size D0) (w.alloc (.cells #[.map (some b)] 74)) :=
    AnyZI.keys_gives (ρ := Try.keysZ_ren) { Try.keysZ with } Fence.wide _ trivial rfl (by omega) w.heap.size b nn D0 _ (by simp) (by simp) (by
      obtain ⟨es, clock, hb, Ft, hs, hD⟩ := hown
      exact ⟨es, clock, (Below.heap_alloc _ _ b hbl).trans hb, Ft, hs, hD⟩)
  exact AnyZI.sorted_in Try.sortedZ Fence.wide 5 trivial trivial trivial trivial rfl (by omega) (Try.sortsZ _) (enters_of Try.func114 (by kernel_rfl) rfl) 115 #[.pointer (some ⟨w.heap.size, 0, none⟩)] trivial (enters_of Try.func115 (by kernel_rfl) rfl) _ _ hmax hbytes _ hseq

end Go.Proofs
set_option linter.unusedVariables false
set_option linter.unusedSimpArgs false
namespace Go.Proofs.Ytembbemljejjbaa
open Go Go.Vc Go.Proofs Go.Maps Go.Dk
open Go.Pg (SrtI)

theorem sl_of_rowZ {w : World} {base : Nat} {v : Value} {ls : List Int} (h : w.ownsRow base 3 1 v ls.length (ls.map encZ)) :
    ∃ a c, v = .slice a ls.length c ∧ (∀ q, blk a q → base ≤ q) ∧ Sl (IntE .i64) w.heap a ls.length ls := by
  obtain ⟨_, ⟨rfl, h0⟩ | ⟨g, cap, cur, rfl, hbase, hb, _, _, _, ht⟩⟩ := h
  · have : ls = [] := List.eq_nil_of_length_eq_zero h0
    subst this
    exact ⟨_, _, rfl, fun q ⟨p, hp, _⟩ => (by cases hp), Sl.nil _ _⟩
  · refine ⟨_, _, rfl, fun q ⟨p, hp, hq⟩ => (by cases hp; exact hq ▸ hbase), rfl, .inr ⟨_, rfl, fun i x hx j u hu => ?_⟩⟩
    have hi := (List.getElem?_eq_some_iff.1 hx).1
    match j, hu with
    | 0, hu =>
      simp [IntE] at hu
      subst hu
      rw [Addr.add_row, cell_at hb]
      have : (ls.map encZ)[i]? = some (encZ x) := by rw [List.getElem?_map, hx]; rfl
      rw [← ht, List.getElem?_take, if_pos (by omega)] at this
      have e : 0 + (i * (IntE .i64).sz + 0) = i := by show 0 + (i * 1 + 0) = i; omega
      rw [e, ← Array.getElem?_toList]
      exact this
    | j + 1, hu => simp [IntE] at hu

theorem sortedKeysZ {h : Heap} {r : Nat} {m : List (Int × Bv)} (hma : MapAt Mi h r m) (hn : m.length ≤ 1073741824) (hbd : ∀ s ∈ mKeys m, I64 s) :
    HC Try.prog 83 #[.map (some r)] h fun v h1 => Keep h.size h h1 ∧
      HC Try.prog 82 #[v] h1 fun v2 h2 => Keep h1.size h1 h2 ∧ ∃ a c K, SrtI K ∧ (∀ q, q ∈ K ↔ q ∈ mKeys m) ∧ K.length = m.length ∧ v2 = .slice a K.length c ∧ (∀ q, blk a q → h.size ≤ q) ∧ Sl (IntE .i64) h2 a K.length K := by
  refine ⟨fun w hw => ?_⟩
  subst hw
  refine (callsIn_wide.1 (Try.maps_KeysZ (some r) w)).mono ?_
  rintro e w' ⟨rfl, rfl⟩
  refine ⟨_, rfl, Sane.push rfl, Keep.push _ _ _ (Nat.le_refl _), ⟨fun w2 hw2 => ?_⟩⟩
  obtain ⟨w0, hh, rfl⟩ : ∃ w0 : World, w0.heap = w.heap ∧ w2 = w0.alloc (.cells #[.map (some r)] 74) :=
    ⟨{ w2 with heap := w.heap }, rfl, by cases w2; simp only [World.alloc] at hw2 ⊢; subst hw2; rfl⟩
  rw [← hh] at hma ⊢
  obtain ⟨D, hown, hp0, hsz⟩ := owns_ofZ (w := w0) hma hbd hn
  refine (callsIn_wide.1 (Try.slices_Sorted_keysZ (H := Unit) r m.length D readZ w0 hown (by rw [hsz]; unfold maxLen; omega) (by rw [hsz]; omega))).mono ?_
  rintro e w' ⟨v, ss, rfl, hp, hrow, hnil, hb⟩
  have hnd : (mKeys m).Nodup := by obtain ⟨_, _, _, _, h, _⟩ := hma; exact h
  obtain ⟨s1, s2, s3⟩ := sorted_keysZ hnd (hp.trans hp0)
  have hl : ss.length = (ss.mergeSort fun x y => decide (x ≤ y)).length := by simp
  rw [hl] at hrow
  obtain ⟨a, c, rfl, hblk, hsl⟩ := sl_of_rowZ hrow
  refine ⟨_, rfl, ⟨hb.tape, hb.os, hb.output, hb.size, fun k o hk _ => (hb.block k (Array.getElem?_eq_some_iff.1 hk).1).trans hk⟩, (by show Keep (w.heap.push _).size (w.heap.push _) _; rw [← hh]; exact ⟨hb.size, hb.block⟩), a, c, _, s1, s2, s3, rfl, fun q hq => (by have := hblk q hq; simp only [World.alloc, Array.size_push] at this; omega), hsl⟩
end Go.Proofs.Ytembbemljejjbaa
end
