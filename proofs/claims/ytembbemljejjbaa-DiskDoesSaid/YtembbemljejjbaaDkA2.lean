/-
  The disk's syncs. Conditions: none.
-/
import Derived.Test.YtembbemljejjbaaDkA1
set_option linter.unusedVariables false
set_option linter.unusedSimpArgs false
set_option maxRecDepth 100000
namespace Go.Proofs.Ytembbemljejjbaa
open Go Go.Vc Go.Proofs Go.Dk

/-- what is done to a file that is there: the call, given what the function value does. -/
theorem does_spec {f : Nat} {cap : Array Value} (hf : fnOk Try.prog f = true) {h : Heap} {d : Nat} {x : D} {O : Nat → Prop} {s : Str} {Q : Value → Heap → Prop} (hd : DiskAt h d x O) (hwn : x.waits.length ≤ 1073741824)
    (bad : ∀ h' O' e, (may x s).1 = e → e ≠ 0 → DiskAt h' d (may x s).2 O' → (∀ q, O' q → O q ∨ h.size ≤ q) → Upd O h h' → Q (.int .i64 e) h')
    (good : ∀ h1 c1 p1 c2 p2 A n c, may x s = (0, act x) → DiskP h1 d c1 p1 c2 p2 A n c (act x) → (∀ b, blks d c1 p1 c2 p2 A b → O b) → Upd O h h1 →
      HC Try.prog f (Array.mk [.agg (Array.mk [.map (some c1), .map (some p1)])] ++ cap) h1 fun v h' => v = .tuple #[] ∧ Q (.int .i64 0) h') :
    HC Try.prog 50 #[.pointer (some ⟨d, 0, none⟩), .string s, .func (.func f) #[] cap] h Q := by
  have hd0 := hd
  refine HC_of_vc (args := [.pointer (some ⟨d, 0, none⟩), .string s, .func (.func f) #[] cap]) (base := 31) (cuts := []) (bigs := []) hm Try.func50 ?_
  rw [vcDoes]
  refine (ready_spec hd).mono ?_
  rintro v h1 ⟨rfl, rfl⟩
  refine ⟨_, rfl, br_intro (fun e => ?_) (fun e => ?_)⟩
  · have hdn : x.down = true := by cases hdn : x.down <;> simp [hdn] at e ⊢
    have hm1 : may x s = (8, x) := by simp [may, hdn]
    rw [hdn]
    refine bad h1 O 8 (by rw [hm1]) (by decide) (by rw [hm1]; exact hd0) (fun q h => .inl h) (Upd.refl _ _)
  have hdn : x.down = false := by cases hdn : x.down <;> simp [hdn] at e ⊢
  refine (has_spec hd0 s).mono ?_
  rintro v h4 ⟨rfl, rfl⟩
  have hh : has x s = (mGet x.now s).isSome := by simp [has, hdn]
  rw [hh]
  refine ⟨_, rfl, br_intro (fun e => ?_) (fun e => ?_)⟩
  · have hn : mGet x.now s = none := by cases hg : mGet x.now s <;> simp [hg] at e ⊢
    have hm1 : may x s = (5, x) := by simp [may, hdn, hn]
    exact bad h4 O 5 (by rw [hm1]) (by decide) (by rw [hm1]; exact hd0) (fun q h => .inl h) (Upd.refl _ _)
  obtain ⟨l, hn⟩ : ∃ l, mGet x.now s = some l := by cases hg : mGet x.now s <;> simp [hg] at e ⊢
  have hm0 : may x s = ended x := by simp [may, hdn, hn]
  refine (act_spec hd0).mono ?_
  rintro v h7 ⟨hd7, u7, rfl⟩
  have hd7' := hd7
  obtain ⟨hO7, c1, p1, c2, p2, A, n, c, hp7, hb7⟩ := hd7
  refine ⟨_, rfl, br_intro (fun hg => ?_) (fun hg => ?_)⟩
  · have hm1 : may x s = (8, off (act x).keep (act x)) := by rw [hm0, ended, if_pos hg]
    refine ⟨_, rfl, _, reads_load scU (hp7.rd rfl), (off_spec hd7' hp7.ok.keep hwn).mono ?_⟩
    rintro v h12 ⟨O', hd12, sub, u12, rfl⟩
    exact ⟨rfl, bad h12 O' 8 (by rw [hm1]) (by decide) (by rw [hm1]; exact hd12) (fun q h => (sub q h).imp id fun h => Nat.le_trans u7.size h) (u7.trans u12)⟩
  · have hm1 : may x s = (0, act x) := by rw [hm0, ended, if_neg (by simp [hg])]
    exact ⟨_, rfl, _, _, hp7.side1, br_intro (fun _ => (good h7 c1 p1 c2 p2 A n c hm1 hp7 hb7 u7).mono fun v h' h => h) (fun e => by rw [hf] at e; cases e)⟩

theorem sync1_spec (h : Heap) (c p : Nat) : HC Try.prog 51 (Array.mk [.agg (Array.mk [.map (some c), .map (some p)])] ++ Array.mk []) h fun v h' => Keep h.size h h' ∧ v = .tuple #[] := by
  have e : (Array.mk [Value.agg (Array.mk [.map (some c), .map (some p)])] ++ Array.mk []) = [Value.agg (Array.mk [.map (some c), .map (some p)])].toArray := by simp
  rw [e]
  refine HC_of_vc (args := [.agg (Array.mk [.map (some c), .map (some p)])]) (base := 2) (cuts := []) (bigs := []) hm Try.func51 ?_
  rw [vcSync1]
  exact ⟨keep_push _ _, rfl⟩

theorem DiskP.at {h : Heap} {d c1 p1 c2 p2 : Nat} {A : Option Addr} {n c : Nat} {x : D} {O : Nat → Prop} (hp : DiskP h d c1 p1 c2 p2 A n c x) (hb : ∀ b, blks d c1 p1 c2 p2 A b → O b) (hO : ∀ b, O b → b < h.size) : DiskAt h d x O :=
  ⟨hO, c1, p1, c2, p2, A, n, c, hp, hb⟩

theorem sync_spec {h : Heap} {d : Nat} {x : D} {O : Nat → Prop} {s : Str} (hd : DiskAt h d x O) (hwn : x.waits.length ≤ 1073741824) :
    HC Try.prog 17 #[.pointer (some ⟨d, 0, none⟩), .string s] h
      fun v h' => ∃ O', DiskAt h' d (sync x s).2 O' ∧ (∀ q, O' q → O q ∨ h.size ≤ q) ∧ Upd O h h' ∧ v = .int .i64 (sync x s).1 := by
  refine HC_of_vc (args := [.pointer (some ⟨d, 0, none⟩), .string s]) (base := 15) (cuts := []) (bigs := []) hm Try.func17 ?_
  rw [vcSync]
  refine does_spec (by kernel_rfl) hd hwn (fun h' O' e he h0 hd' sub u => ?_) fun h1 c1 p1 c2 p2 A n c hm1 hp hb u1 => (sync1_spec h1 c1 p1).mono ?_
  · have hs : sync x s = may x s := by
      unfold sync
      cases hm0 : may x s with
      | mk e' d1 =>
        rw [hm0] at he
        simp only at he ⊢
        rw [if_neg (by rw [he]; exact h0)]
    refine ⟨_, rfl, br_intro (fun h1 => absurd (by simpa using h1) h0) fun _ => ⟨O', ?_, sub, u, ?_⟩⟩
    · rw [hs]; exact hd'
    · rw [hs, he]
  · rintro v h2 ⟨k2, rfl⟩
    have hs : sync x s = (0, { act x with safe := put s (pgs x.now s) x.safe, waits := drop x.waits s 0 }) := by
      unfold sync; rw [hm1]; rfl
    have hO : ∀ b, O b → b < h2.size := fun b h0 => Nat.lt_of_lt_of_le (Nat.lt_of_lt_of_le (hd.1 b h0) u1.size) k2.size
    have hd2 : DiskAt h2 d (act x) O := (hp.upd (k2.upd fun _ => False) fun _ _ h => h).at hb hO
    refine ⟨rfl, _, rfl, br_intro (fun _ => (settle_spec hd2 hwn).mono ?_) (fun e => by cases e)⟩
    rintro v h4 ⟨hd4, u4, rfl⟩
    rw [hs]
    exact ⟨rfl, O, hd4, fun q h => .inl h, u1.trans ((k2.upd O).trans u4), rfl⟩

end Go.Proofs.Ytembbemljejjbaa
