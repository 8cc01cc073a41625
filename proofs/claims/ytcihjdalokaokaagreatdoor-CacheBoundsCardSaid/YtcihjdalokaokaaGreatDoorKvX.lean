/-
  The last keys asked are hits. Conditions: none.
-/
import Derived.Test.YtcihjdalokaokaaGreatDoorKvU
import Derived.Test.YtcihjdalokaokaaGreatDoorKvE
import Derived.Test.YtcihjdalokaokaaGreatDoorKvN
import Derived.Test.YtcihjdalokaokaaGreatDoorC13
import Derived.Test.YtcihjdalokaokaaGreatDoorVcV
import Derived.Test.YtcihjdalokaokaaGreatDoorVcT
set_option linter.unusedVariables false
set_option linter.unusedSimpArgs false
set_option maxRecDepth 100000
namespace Go.Proofs.YtcihjdalokaokaaGreatDoor
open Go Go.Vc Go.Proofs Go.Dk Go.Kv

theorem appSs : App Tryz.prog 54 9 StrE.sz 16 (.string ⟨#[]⟩) := ⟨by kernel_rfl, by kernel_rfl, by kernel_rfl, by kernel_rfl, rfl, by decide, by decide⟩
theorem bsS (s : Str) : bsCells Tryz.prog 54 1 [(0, .string s)] = some (9, StrE.enc s) :=
  bs_one (v := .string s) appSs.und appSs.size appSs.zero appSs.zlen (by decide) (by decide) rfl
theorem bsWr (w : Wr) : bsCells Tryz.prog 32 1 [(0, .agg #[.string w.key, .string w.val, .bool w.gone])] = some (42, WrE.enc w) :=
  bs_one (sz := 3) (z := .agg #[.string ⟨#[]⟩, .string ⟨#[]⟩, .bool false]) (v := .agg #[.string w.key, .string w.val, .bool w.gone]) (by kernel_rfl) (by kernel_rfl) (by kernel_rfl) rfl (by decide) (by decide) rfl
theorem readsStr {h : Heap} {A : Option Addr} {n k : Nat} {l : List Str} {s : Str} (hs : Sl StrE h A n l) (hq : l[k]? = some s) :
    ∃ p, A = some p ∧ Reads Tryz.prog (Instr.loadAt 9 (.pointer (some (p.add (k * 1))))) h (.string s) := by
  obtain ⟨p, e, hp⟩ := hs.get hq
  exact ⟨p, e, reads_load kS (by have := hp 0 _ (rfl : (StrE.enc s)[0]? = some (.string s)); exact this)⟩
/-- one write in a row. -/
theorem svc_wr1 {w : Wr} {h : Heap} {K : Value → Heap → Prop} (k : ∀ h', Keep h.size h h' → h'.size = h.size + 1 → Sl WrE h' (some ⟨h.size, 0, none⟩) 1 [w] → K (.slice (some ⟨h.size, 0, none⟩) 1 1) h') :
    SVC Tryz.prog (Instr.buildSlice 32 1 (Array.mk [(0, .agg (Array.mk [.string w.key, .string w.val, .bool w.gone]))])) h K := by
  refine svc_buildSlice (bsWr w) (k _ (keep_push _ _) (by simp) ⟨rfl, .inr ⟨_, rfl, fun i y hy j u hu => ?_⟩⟩)
  cases i with
  | zero =>
    simp at hy; subst hy
    rw [Addr.add_row, cell_push, Nat.zero_mul]
    simpa using hu
  | succ i => simp at hy
section
variable {S : Nat → (Nat → Prop) → Ps Str → Heap → Prop} {M s c most u : Nat} {N : Nat → Prop} {P : Ps Str} {E : List En} {hits : Int} {h : Heap}
theorem CaS.get' (hS : Sto M S s) (hc : CaS S s c most u N P E hits h) (h0 : 0 ≤ hits) (h1 : hits < 1000000000) (k : Str) {E' : List En} {hits' : Int} (hE : ekeep most E k ((mGet P k).getD ⟨#[]⟩) (mGet P k).isSome = E') (hh : hits + (if (efind k E).isSome then 1 else 0) = hits') :
    HC Tryz.prog 33 #[.pointer (some ⟨c, 0, none⟩), .string k] h fun v h' => UpdM (fun q => ¬ N q) h h' ∧
      v = .tuple #[.string ((mGet P k).getD ⟨#[]⟩), .bool (mGet P k).isSome, .int .i64 0] ∧ CaS S s c most u N P E' hits' h' := by
  subst hE
  subst hh
  exact hc.get hS h0 h1 k
theorem turn_of {N : Nat → Prop} {h H H' : Heap} (t : Turn h H) (u : UpdM (fun q => ¬ N q) H H') (hN : ∀ q, q < h.size → N q) : Turn h H' :=
  UpdM.turn (S := fun q => ¬ N q) ((t.m (S := fun q => ¬ N q)).trans u) fun q hq hn => hn (hN q hq)
/-- what the document tells of a cache. -/
theorem alive13_spec (h : Heap) : HC Tryz.prog 30 #[] h fun v h' => Turn h h' ∧ v = .bool true := by
  refine HC_of_vc (args := []) (base := 30) (cuts := []) (bigs := []) kM Tryz.func30 ?_
  rw [vc13Alive]
  refine (mopen_spec (N := fun q => q < h.size) fun q hq => hq).mono ?_
  rintro v h1 ⟨k1, rfl, m1, z1⟩
  have hS := memSto 1000 (h.size + 1)
  refine ⟨_, _, rfl, (CaS.new hS m1 (by omega) 1).mono ?_⟩
  rintro v h5 ⟨k5, rfl, c5⟩
  have c5 : CaS (MemS (h.size + 1)) (h.size + 1) (h1.size + 1) 1 0 (fun q => q < h.size) [] [] 0 h5 := c5
  have t5 : Turn h h5 := ((k1.trans (k5.mono k1.size)).upd fun _ => False).m.turn fun _ _ h => h
  have hne : (⟨#[97]⟩ : Str) ≠ ⟨#[98]⟩ := by decide
  refine ⟨_, rfl, (c5.get' (E' := [⟨⟨#[97]⟩, ⟨#[]⟩, false⟩]) (hits' := 0) hS (by decide) (by decide) _ (ekeep_nil (by decide) _ _ _) rfl).mono ?_⟩
  rintro v h8 ⟨u8, rfl, c8⟩
  refine ⟨_, _, _, rfl, (c8.get' (E' := [⟨⟨#[97]⟩, ⟨#[]⟩, false⟩]) (hits' := 1) hS (by decide) (by decide) _ ekeep_one (by rw [efind_one]; simp)).mono ?_⟩
  rintro v h13 ⟨u13, rfl, c13⟩
  refine ⟨_, _, _, rfl, (c13.get' (E' := [⟨⟨#[98]⟩, ⟨#[]⟩, false⟩]) (hits' := 1) hS (by decide) (by decide) _ ekeep_one (by rw [efind_one, decide_eq_false hne]; simp)).mono ?_⟩
  rintro v h18 ⟨u18, rfl, c18⟩
  refine ⟨_, _, _, rfl, (c18.get' (E' := [⟨⟨#[97]⟩, ⟨#[]⟩, false⟩]) (hits' := 1) hS (by decide) (by decide) _ ekeep_one (by rw [efind_one, decide_eq_false (Ne.symm hne)]; simp)).mono ?_⟩
  rintro v h23 ⟨u23, rfl, c23⟩
  have t23 := turn_of (turn_of (turn_of (turn_of t5 u8 fun _ h => h) u13 fun _ h => h) u18 fun _ h => h) u23 fun _ h => h
  refine ⟨_, _, _, rfl, br_intro (fun _ => ?_) fun e => by simp at e⟩
  refine c23.hits_spec.mono ?_
  rintro v h28 ⟨rfl, rfl⟩
  refine ⟨_, rfl, br_intro (fun _ => ?_) fun e => by simp at e⟩
  refine c23.size_spec.mono ?_
  rintro v h31 ⟨rfl, rfl⟩
  exact ⟨_, rfl, t23, rfl⟩
/-- a block that is the law's own is no business of the cache's. -/
theorem CaS.more (hS : Sto M S s) (hc : CaS S s c most u N P E hits h) {h' : Heap} (k : Keep h.size h h') : CaS S s c most u (fun q => N q ∨ (h.size ≤ q ∧ q < h'.size)) P E hits h' :=
  hc.own hS (k.upd fun _ => False).m (fun _ _ h => h.elim) fun q hq => by
    rcases hq with hq | hq
    · exact ⟨.inl hq, Nat.lt_of_lt_of_le (hc.lt hS q hq) k.size⟩
    · exact ⟨.inr hq.1, hq.2⟩
end
end Go.Proofs.YtcihjdalokaokaaGreatDoor
