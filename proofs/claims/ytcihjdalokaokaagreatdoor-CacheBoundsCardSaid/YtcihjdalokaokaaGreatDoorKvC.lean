/-
  A ring of entries, plainly: one taken out, one put in; what a cache remembers. Conditions: none.
-/
import Derived.Test.YtcihjdalokaokaaGreatDoorKvA
set_option linter.unusedSimpArgs false
set_option linter.unusedVariables false
namespace Go.Kv
open Go Go.Vc Go.Dk
abbrev Ptr (a : Addr) : Option Value := some (.pointer (some a))
section
variable {f g f' g' : Addr → Option Value}
/-- from one place over others to one: each leads to the next, and back. -/
def Ch (f g : Addr → Option Value) : Addr → List Addr → Addr → Prop
  | a, [], z => f a = Ptr z ∧ g z = Ptr a
  | a, e :: X, z => (f a = Ptr e ∧ g e = Ptr a) ∧ Ch f g e X z
def lastA : Addr → List Addr → Addr
  | a, [] => a
  | _, e :: X => lastA e X
theorem lastA_snoc : ∀ (X : List Addr) (a e : Addr), lastA a (X ++ [e]) = e
  | [], _, _ => rfl
  | _ :: X, _, e => lastA_snoc X _ e
theorem lastA_mem : ∀ (X : List Addr) (a : Addr), lastA a X ∈ a :: X
  | [], a => List.mem_singleton.2 rfl
  | e :: X, a => List.mem_cons_of_mem _ (lastA_mem X e)
theorem Ch.app : ∀ (X : List Addr) {a e z : Addr} {Y : List Addr}, Ch f g a (X ++ e :: Y) z ↔ Ch f g a X e ∧ Ch f g e Y z
  | [], a, e, z, Y => Iff.rfl
  | x :: X, a, e, z, Y => by
    simp only [List.cons_append, Ch, Ch.app X]
    exact ⟨fun h => ⟨⟨h.1, h.2.1⟩, h.2.2⟩, fun h => ⟨h.1.1, h.1.2, h.2⟩⟩
theorem Ch.congr : ∀ (X : List Addr) {a z : Addr}, Ch f g a X z → (∀ x ∈ a :: X, f' x = f x) → (∀ x ∈ X, g' x = g x) → g' z = g z → Ch f' g' a X z
  | [], a, z, h, hf, hg, hz => ⟨(hf a List.mem_cons_self).trans h.1, hz.trans h.2⟩
  | x :: X, a, z, h, hf, hg, hz => ⟨⟨(hf a List.mem_cons_self).trans h.1.1, (hg x List.mem_cons_self).trans h.1.2⟩,
      Ch.congr X h.2 (fun y hy => hf y (List.mem_cons_of_mem _ hy)) (fun y hy => hg y (List.mem_cons_of_mem _ hy)) hz⟩
theorem Ch.back : ∀ (X : List Addr) {a z : Addr}, Ch f g a X z → g z = Ptr (lastA a X)
  | [], _, _, h => h.2
  | _ :: X, _, _, h => Ch.back X h.2
theorem Ch.fore {X : List Addr} {a z : Addr} (h : Ch f g a X z) : f a = Ptr (X.headD z) := by
  cases X with
  | nil => exact h.1
  | cons x X => exact h.1.1
/-- the last step leads elsewhere. -/
theorem Ch.relink : ∀ (X : List Addr) {a z y : Addr}, Ch f g a X z → (a :: X).Nodup → f' (lastA a X) = Ptr y → g' y = Ptr (lastA a X) → (∀ x ∈ a :: X, x ≠ lastA a X → f' x = f x) → (∀ x ∈ X, g' x = g x) → Ch f' g' a X y
  | [], a, z, y, h, hn, h1, h2, hf, hg => ⟨h1, h2⟩
  | e :: X, a, z, y, h, hn, h1, h2, hf, hg => by
    have hn2 := List.nodup_cons.1 hn
    refine ⟨⟨(hf a List.mem_cons_self fun e2 => hn2.1 (by rw [e2]; exact lastA_mem X e)).trans h.1.1, (hg e List.mem_cons_self).trans h.1.2⟩, Ch.relink X h.2 hn2.2 h1 h2 (fun x hx hne => hf x (List.mem_cons_of_mem _ hx) hne) fun x hx => hg x (List.mem_cons_of_mem _ hx)⟩
/-- one is taken out. -/
theorem Ch.out {X Y : List Addr} {a e z : Addr} (h : Ch f g a (X ++ e :: Y) z) (hn : (a :: (X ++ e :: Y)).Nodup) (hz : z = a)
    (h1 : f' (lastA a X) = Ptr (Y.headD z)) (h2 : g' (Y.headD z) = Ptr (lastA a X)) (hf : ∀ x, x ≠ lastA a X → f' x = f x) (hg : ∀ x, x ≠ Y.headD z → g' x = g x) : Ch f' g' a (X ++ Y) z := by
  subst hz
  obtain ⟨c1, c2⟩ := (Ch.app X).1 h
  have hnX : (z :: X).Nodup := by
    have : (z :: X).Sublist (z :: (X ++ e :: Y)) := List.Sublist.cons_cons _ (List.sublist_append_left _ _)
    exact this.nodup hn
  have hz : z ∉ X ++ e :: Y := (List.nodup_cons.1 hn).1
  have hd := (List.nodup_append.1 (List.nodup_cons.1 hn).2).2.2
  cases Y with
  | nil =>
    rw [List.append_nil]
    refine Ch.relink X c1 hnX h1 h2 (fun x _ hne => hf x hne) fun x hx => hg x fun e2 => ?_
    exact hz (by rw [← show x = z from e2]; exact List.mem_append_left _ hx)
  | cons y Y =>
    refine (Ch.app X).2 ⟨Ch.relink X c1 hnX h1 h2 (fun x _ hne => hf x hne) fun x hx => hg x fun e2 => ?_, ?_⟩
    · exact hd x hx x (by rw [show x = y from e2]; exact List.mem_cons_of_mem _ List.mem_cons_self) rfl
    · have hyY := (List.nodup_cons.1 (List.nodup_append.1 (List.nodup_cons.1 hn).2).2.1).2
      refine Ch.congr Y c2.2 (fun x hx => hf x fun e2 => ?_) (fun x hx => hg x fun e2 => ?_) (hg z fun e2 => hz ?_)
      · rcases List.mem_cons.1 (lastA_mem X z) with h3 | h3
        · exact hz (by rw [← h3, ← e2]; exact List.mem_append_right _ (List.mem_cons_of_mem _ hx))
        · rw [← e2] at h3; exact hd x h3 x (List.mem_cons_of_mem _ hx) rfl
      · exact (List.nodup_cons.1 hyY).1 (by rw [← show x = y from e2]; exact hx)
      · rw [show z = y from e2]; exact List.mem_append_right _ (List.mem_cons_of_mem _ List.mem_cons_self)
/-- one is put in at the end. -/
theorem Ch.inn {X : List Addr} {a e : Addr} (h : Ch f g a X a) (hn : (a :: X).Nodup) (he : e ≠ a) (heX : e ∉ X)
    (h1 : f' (lastA a X) = Ptr e) (h2 : g' e = Ptr (lastA a X)) (h3 : f' e = Ptr a) (h4 : g' a = Ptr e) (hf : ∀ x, x ≠ lastA a X → x ≠ e → f' x = f x) (hg : ∀ x, x ≠ e → x ≠ a → g' x = g x) : Ch f' g' a (X ++ [e]) a := by
  have ha := (List.nodup_cons.1 hn).1
  refine (Ch.app X).2 ⟨Ch.relink X h hn h1 h2 (fun x hx hne => hf x hne fun e2 => ?_) (fun x hx => hg x (fun e2 => heX (e2 ▸ hx)) fun e2 => ha (e2 ▸ hx)), h3, h4⟩
  rcases List.mem_cons.1 hx with h5 | h5
  · exact he (e2.symm.trans h5)
  · exact heX (e2 ▸ h5)
end
/- ------------------------------------------------------------------ what a cache remembers -/
structure En where
  key : Str
  val : Str
  is : Bool
def ecut (k : Str) (l : List En) : List En := l.filter fun e => decide (e.key ≠ k)
def efind (k : Str) (l : List En) : Option En := l.find? fun e => decide (e.key = k)
def ekeep (most : Nat) (l : List En) (k v : Str) (is : Bool) : List En :=
  if (efind k l).isSome then ecut k l ++ [⟨k, v, is⟩] else if most = 0 then l else (if l.length = most then l.tail else l) ++ [⟨k, v, is⟩]
abbrev ekeys (l : List En) : List Str := l.map (·.key)
end Go.Kv
