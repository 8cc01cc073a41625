/-
  cmp.Compare at strings, and the closures that sort by keys. Conditions: none.
-/
import Derived.Test.YtcihjdalokaokaaGreatDoorKvB
import Derived.WalkKit
import Derived.Shelf.SlSortCmp.WholeK
import Derived.Shelf.SlSortCmp.NoneTotal
import Derived.Shelf.Lay
import Derived.Shelf.SlGeneric
import Derived.Ground.SlsfProg
set_option linter.unusedVariables false
set_option linter.unusedSimpArgs false
set_option maxRecDepth 100000
namespace Go.Proofs
open Go Go.RowKit Go.Sort Go.Shelf
def cmpS (a b : ByteArray) : Int := if Op.bytesLess a.toList b.toList then -1 else if Op.bytesLess b.toList a.toList then 1 else 0
theorem cmpS_gt {a b : ByteArray} (h : Op.bytesLess a.toList b.toList = false) : cmpS a b = if (!(Op.bytesLess a.toList b.toList || a.toList == b.toList)) = true then 1 else 0 := by
  unfold cmpS
  rw [if_neg (by rw [h]; decide), h, Bool.false_or]
  cases h2 : (a.toList == b.toList) with
  | true =>
    have : a = b := Go.Dk.eq_beq.1 h2
    subst this
    rw [h]; rfl
  | false =>
    have hne : a ≠ b := fun e => by subst e; simp at h2
    cases h3 : Op.bytesLess b.toList a.toList with
    | true => rfl
    | false => exact absurd (Go.Dk.lt_total h h3) hne
theorem run_gtrS (P : Program) (t : TypeId) (a b : ByteArray) (w : World) : (binOp .gtr t (.string a) (.string b)).run P w = .ok (.bool (!(Op.bytesLess a.toList b.toList || a.toList == b.toList))) w := by
  simp [binOp, Op.stringOp]
attribute [local go_sem] run_gtrS
set_option maxHeartbeats 1000000 in
theorem Tryz.compareS (a b : ByteArray) (W : World) : Calls Tryz.prog 136 #[.string a, .string b] W fun e w' => e = .returned (.int .i64 (cmpS a b)) ∧ w' = W := by
  cases h1 : Op.bytesLess a.toList b.toList with
  | true =>
    have hc : cmpS a b = -1 := by unfold cmpS; rw [if_pos h1]
    rw [hc]
    go_enter Tryz.func136, Tryz.ntmps136
    go_wp2
    go_ret
    exact ⟨rfl, rfl⟩
  | false =>
    have hc := cmpS_gt h1
    generalize cmpS a b = r at hc ⊢
    rw [h1] at hc
    go_enter Tryz.func136, Tryz.ntmps136
    go_wp2
    · rename_i hx
      go_ret
      refine ⟨?_, rfl⟩
      rw [hc, Bool.false_or, if_pos hx]; rfl
    · rename_i hx
      go_ret
      refine ⟨?_, rfl⟩
      rw [hc, Bool.false_or, if_neg (by rw [hx]; decide)]; rfl
def Tryz.encPr (x : ByteArray × ByteArray) : List Value := [.string x.1, .string x.2]
def Tryz.encWr (x : Go.Kv.Wr) : List Value := [.string x.key, .string x.val, .bool x.gone]
set_option maxHeartbeats 1000000 in
theorem Tryz.lessPr (x y : ByteArray × ByteArray) (W : World) : Calls Tryz.prog 305 #[.agg #[.string x.1, .string x.2], .agg #[.string y.1, .string y.2]] W fun e w' => e = .returned (.int .i64 (cmpS x.1 y.1)) ∧ ∃ q os', w' = grow (W.drewN q) os' := by
  have hcon := fun W' => Tryz.compareS x.1 y.1 W'
  generalize cmpS x.1 y.1 = r at hcon ⊢
  go_enter Tryz.func305, Tryz.ntmps305
  go_wp2_with (go_at_call 136; refine (hcon _).mono ?_; rintro e w' ⟨rfl, rfl⟩)
  go_ret
  exact ⟨rfl, 0, _, by rw [alloc_eq_grow, alloc_eq_grow, grow_grow]; rfl⟩
section
open Go.Shelf
def Tryz.sortPr_ren : Go.Shelf.Ren := ⟨fun | 6 => 304 | 15 => 180 | 14 => 306 | 28 => 219 | 29 => 220 | 20 => 307 | 21 => 308 | 22 => 309 | 23 => 310 | 24 => 311 | 25 => 312 | 26 => 313 | 27 => 314 | 46 => 315 | 47 => 235 | 48 => 236 | 49 => 316 | 50 => 317 | 57 => 318 | n => n, fun | 22 => 31 | 24 => 53 | 25 => 367 | 3 => 3 | 39 => 193 | 0 => 0 | 53 => 250 | 55 => 33 | 4 => 4 | 46 => 289 | 45 => 288 | 50 => 173 | 5 => 5 | 9 => 9 | 66 => 312 | 70 => 315 | 76 => 335 | 77 => 336 | n => n, fun | n => n⟩
theorem Tryz.sortPr : Go.Proofs.SlLaysF0.n6 Tryz.prog Tryz.sortPr_ren := {
  mixed := by kernel_rfl
  f6 := ⟨Tryz.f304.name, by decide, Tryz.func304.trans (congrArg some (by kernel_rfl))⟩
  f14 := ⟨Tryz.f306.name, by decide, Tryz.func306.trans (congrArg some (by kernel_rfl))⟩
  f15 := Tryz.func180.trans (congrArg some (by kernel_rfl))
  f20 := ⟨Tryz.f307.name, by decide, Tryz.func307.trans (congrArg some (by kernel_rfl))⟩
  f21 := ⟨Tryz.f308.name, by decide, Tryz.func308.trans (congrArg some (by kernel_rfl))⟩
  f22 := ⟨Tryz.f309.name, by decide, Tryz.func309.trans (congrArg some (by kernel_rfl))⟩
  f23 := ⟨Tryz.f310.name, by decide, Tryz.func310.trans (congrArg some (by kernel_rfl))⟩
  f24 := ⟨Tryz.f311.name, by decide, Tryz.func311.trans (congrArg some (by kernel_rfl))⟩
  f25 := ⟨Tryz.f312.name, by decide, Tryz.func312.trans (congrArg some (by kernel_rfl))⟩
  f26 := ⟨Tryz.f313.name, by decide, Tryz.func313.trans (congrArg some (by kernel_rfl))⟩
  f27 := ⟨Tryz.f314.name, by decide, Tryz.func314.trans (congrArg some (by kernel_rfl))⟩
  f28 := Tryz.func219.trans (congrArg some (by kernel_rfl))
  f29 := Tryz.func220.trans (congrArg some (by kernel_rfl))
  f46 := ⟨Tryz.f315.name, by decide, Tryz.func315.trans (congrArg some (by kernel_rfl))⟩
  f47 := Tryz.func235.trans (congrArg some (by kernel_rfl))
  f48 := Tryz.func236.trans (congrArg some (by kernel_rfl))
  f49 := ⟨Tryz.f316.name, by decide, Tryz.func316.trans (congrArg some (by kernel_rfl))⟩
  f50 := ⟨Tryz.f317.name, by decide, Tryz.func317.trans (congrArg some (by kernel_rfl))⟩
  f57 := ⟨Tryz.f318.name, by decide, Tryz.func318.trans (congrArg some (by kernel_rfl))⟩
  t0 := Tryz.underlying0
  a0 := Tryz.isAgg0
  z0 := Tryz.sizeOf0
  v0 := Tryz.zeroValue0
  t3 := Tryz.underlying3
  a3 := Tryz.isAgg3
  z3 := Tryz.sizeOf3
  v3 := Tryz.zeroValue3
  t4 := Tryz.underlying4
  a4 := Tryz.isAgg4
  z4 := Tryz.sizeOf4
  v4 := Tryz.zeroValue4
  t5 := Tryz.underlying5
  a5 := Tryz.isAgg5
  z5 := Tryz.sizeOf5
  v5 := Tryz.zeroValue5
  t9 := Tryz.underlying9
  a9 := Tryz.isAgg9
  z9 := Tryz.sizeOf9
  v9 := Tryz.zeroValue9
  t22 := Tryz.underlying31
  a22 := Tryz.isAgg31
  z22 := Tryz.sizeOf31
  v22 := Tryz.zeroValue31
  t25 := Tryz.underlying367
  a25 := Tryz.isAgg367
  z25 := Tryz.sizeOf367
  v25 := Tryz.zeroValue367
  t39 := Tryz.underlying193
  a39 := Tryz.isAgg193
  z39 := Tryz.sizeOf193
  v39 := Tryz.zeroValue193
  t45 := Tryz.underlying288
  a45 := Tryz.isAgg288
  z45 := Tryz.sizeOf288
  v45 := Tryz.zeroValue288
  t46 := Tryz.underlying289
  a46 := Tryz.isAgg289
  z46 := Tryz.sizeOf289
  v46 := Tryz.zeroValue289
  t50 := Tryz.underlying173
  a50 := Tryz.isAgg173
  z50 := Tryz.sizeOf173
  v50 := Tryz.zeroValue173
  t53 := Tryz.underlying250
  a53 := Tryz.isAgg250
  z53 := Tryz.sizeOf250
  v53 := Tryz.zeroValue250
  t55 := Tryz.underlying33
  a55 := Tryz.isAgg33
  z55 := Tryz.sizeOf33
  v55 := Tryz.zeroValue33
  t66 := Tryz.underlying312
  a66 := Tryz.isAgg312
  z66 := Tryz.sizeOf312
  v66 := Tryz.zeroValue312
  t70 := Tryz.underlying315
  a70 := Tryz.isAgg315
  z70 := Tryz.sizeOf315
  v70 := Tryz.zeroValue315
  t76 := Tryz.underlying335
  a76 := Tryz.isAgg335
  z76 := Tryz.sizeOf335
  v76 := Tryz.zeroValue335
  t77 := Tryz.underlying336
  a77 := Tryz.isAgg336
  z77 := Tryz.sizeOf336
  v77 := Tryz.zeroValue336 }
end
set_option maxHeartbeats 1000000 in
theorem Tryz.lessWr (x y : Go.Kv.Wr) (W : World) : Calls Tryz.prog 140 #[.agg #[.string x.key, .string x.val, .bool x.gone], .agg #[.string y.key, .string y.val, .bool y.gone]] W fun e w' => e = .returned (.int .i64 (cmpS x.key y.key)) ∧ ∃ q os', w' = grow (W.drewN q) os' := by
  have hcon := fun W' => Tryz.compareS x.key y.key W'
  generalize cmpS x.key y.key = r at hcon ⊢
  go_enter Tryz.func140, Tryz.ntmps140
  go_wp2_with (go_at_call 136; refine (hcon _).mono ?_; rintro e w' ⟨rfl, rfl⟩)
  go_ret
  exact ⟨rfl, 0, _, by rw [alloc_eq_grow, alloc_eq_grow, grow_grow]; rfl⟩
section
open Go.Shelf
def Tryz.sortWr_ren : Go.Shelf.Ren := ⟨fun | 6 => 139 | 15 => 180 | 14 => 179 | 28 => 219 | 29 => 220 | 20 => 211 | 21 => 212 | 22 => 213 | 23 => 214 | 24 => 215 | 25 => 216 | 26 => 217 | 27 => 218 | 46 => 234 | 47 => 235 | 48 => 236 | 49 => 237 | 50 => 238 | 57 => 256 | n => n, fun | 22 => 32 | 24 => 42 | 25 => 219 | 3 => 3 | 39 => 193 | 0 => 0 | 53 => 250 | 55 => 33 | 4 => 4 | 46 => 289 | 45 => 288 | 50 => 173 | 5 => 5 | 9 => 9 | 66 => 312 | 70 => 315 | 76 => 335 | 77 => 336 | n => n, fun | n => n⟩
theorem Tryz.sortWr : Go.Proofs.SlLaysF0.n6 Tryz.prog Tryz.sortWr_ren := {
  mixed := by kernel_rfl
  f6 := ⟨Tryz.f139.name, by decide, Tryz.func139.trans (congrArg some (by kernel_rfl))⟩
  f14 := ⟨Tryz.f179.name, by decide, Tryz.func179.trans (congrArg some (by kernel_rfl))⟩
  f15 := Tryz.func180.trans (congrArg some (by kernel_rfl))
  f20 := ⟨Tryz.f211.name, by decide, Tryz.func211.trans (congrArg some (by kernel_rfl))⟩
  f21 := ⟨Tryz.f212.name, by decide, Tryz.func212.trans (congrArg some (by kernel_rfl))⟩
  f22 := ⟨Tryz.f213.name, by decide, Tryz.func213.trans (congrArg some (by kernel_rfl))⟩
  f23 := ⟨Tryz.f214.name, by decide, Tryz.func214.trans (congrArg some (by kernel_rfl))⟩
  f24 := ⟨Tryz.f215.name, by decide, Tryz.func215.trans (congrArg some (by kernel_rfl))⟩
  f25 := ⟨Tryz.f216.name, by decide, Tryz.func216.trans (congrArg some (by kernel_rfl))⟩
  f26 := ⟨Tryz.f217.name, by decide, Tryz.func217.trans (congrArg some (by kernel_rfl))⟩
  f27 := ⟨Tryz.f218.name, by decide, Tryz.func218.trans (congrArg some (by kernel_rfl))⟩
  f28 := Tryz.func219.trans (congrArg some (by kernel_rfl))
  f29 := Tryz.func220.trans (congrArg some (by kernel_rfl))
  f46 := ⟨Tryz.f234.name, by decide, Tryz.func234.trans (congrArg some (by kernel_rfl))⟩
  f47 := Tryz.func235.trans (congrArg some (by kernel_rfl))
  f48 := Tryz.func236.trans (congrArg some (by kernel_rfl))
  f49 := ⟨Tryz.f237.name, by decide, Tryz.func237.trans (congrArg some (by kernel_rfl))⟩
  f50 := ⟨Tryz.f238.name, by decide, Tryz.func238.trans (congrArg some (by kernel_rfl))⟩
  f57 := ⟨Tryz.f256.name, by decide, Tryz.func256.trans (congrArg some (by kernel_rfl))⟩
  t0 := Tryz.underlying0
  a0 := Tryz.isAgg0
  z0 := Tryz.sizeOf0
  v0 := Tryz.zeroValue0
  t3 := Tryz.underlying3
  a3 := Tryz.isAgg3
  z3 := Tryz.sizeOf3
  v3 := Tryz.zeroValue3
  t4 := Tryz.underlying4
  a4 := Tryz.isAgg4
  z4 := Tryz.sizeOf4
  v4 := Tryz.zeroValue4
  t5 := Tryz.underlying5
  a5 := Tryz.isAgg5
  z5 := Tryz.sizeOf5
  v5 := Tryz.zeroValue5
  t9 := Tryz.underlying9
  a9 := Tryz.isAgg9
  z9 := Tryz.sizeOf9
  v9 := Tryz.zeroValue9
  t22 := Tryz.underlying32
  a22 := Tryz.isAgg32
  z22 := Tryz.sizeOf32
  v22 := Tryz.zeroValue32
  t25 := Tryz.underlying219
  a25 := Tryz.isAgg219
  z25 := Tryz.sizeOf219
  v25 := Tryz.zeroValue219
  t39 := Tryz.underlying193
  a39 := Tryz.isAgg193
  z39 := Tryz.sizeOf193
  v39 := Tryz.zeroValue193
  t45 := Tryz.underlying288
  a45 := Tryz.isAgg288
  z45 := Tryz.sizeOf288
  v45 := Tryz.zeroValue288
  t46 := Tryz.underlying289
  a46 := Tryz.isAgg289
  z46 := Tryz.sizeOf289
  v46 := Tryz.zeroValue289
  t50 := Tryz.underlying173
  a50 := Tryz.isAgg173
  z50 := Tryz.sizeOf173
  v50 := Tryz.zeroValue173
  t53 := Tryz.underlying250
  a53 := Tryz.isAgg250
  z53 := Tryz.sizeOf250
  v53 := Tryz.zeroValue250
  t55 := Tryz.underlying33
  a55 := Tryz.isAgg33
  z55 := Tryz.sizeOf33
  v55 := Tryz.zeroValue33
  t66 := Tryz.underlying312
  a66 := Tryz.isAgg312
  z66 := Tryz.sizeOf312
  v66 := Tryz.zeroValue312
  t70 := Tryz.underlying315
  a70 := Tryz.isAgg315
  z70 := Tryz.sizeOf315
  v70 := Tryz.zeroValue315
  t76 := Tryz.underlying335
  a76 := Tryz.isAgg335
  z76 := Tryz.sizeOf335
  v76 := Tryz.zeroValue335
  t77 := Tryz.underlying336
  a77 := Tryz.isAgg336
  z77 := Tryz.sizeOf336
  v77 := Tryz.zeroValue336 }
end
theorem cmpS_lt (a b : ByteArray) : decide (cmpS a b < 0) = Go.Dk.lt a b := by
  unfold cmpS
  show _ = Op.bytesLess a.toList b.toList
  cases h1 : Op.bytesLess a.toList b.toList with
  | true => rfl
  | false => cases h2 : Op.bytesLess b.toList a.toList <;> simp
/-- a strict weak order by keys. -/
theorem swoKey {α : Type} (f : α → ByteArray) : SWO (ltOf fun x y : α => cmpS (f x) (f y)) where
  irrefl x := by unfold ltOf; rw [cmpS_lt]; exact Go.Dk.lt_irrefl _
  trans x y z h1 h2 := by unfold ltOf at *; rw [cmpS_lt] at *; exact Go.Dk.lt_trans h1 h2
  ntrans x y z h1 h2 := by
    unfold ltOf at *; rw [cmpS_lt] at *
    cases h3 : Go.Dk.lt (f x) (f z) with
    | false => rfl
    | true =>
      cases h4 : Go.Dk.lt (f y) (f x) with
      | true => rw [Go.Dk.lt_trans h4 h3] at h2; cases h2
      | false =>
        have e := Go.Dk.lt_total h1 h4
        rw [e, h2] at h3; cases h3
end Go.Proofs
