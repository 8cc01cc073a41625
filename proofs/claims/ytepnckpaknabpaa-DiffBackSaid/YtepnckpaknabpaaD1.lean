/-
  Contracts of the functions that look into lists of pairs: Get, Entry, Rises, odd. Conditions: stated at each.
-/
import Derived.Test.YtepnckpaknabpaaG2
import Derived.Test.YtepnckpaknabpaaVcH
set_option linter.unusedVariables false
namespace Go.Proofs.Ytepnckpaknabpaa
open Go Go.Vc Go.Proofs

abbrev Str := ByteArray
abbrev Pr := Str × Str
def PairE : Enc Pr := ⟨2, fun p => [.string p.1, .string p.2], fun _ => rfl, fun p v h => by
  simp at h; rcases h with rfl | rfl <;> exact one_string _⟩

theorem hm : Try.prog.follows .mixedOrders = true := by kernel_rfl
theorem sc9 : scT Try.prog 9 = true := by kernel_rfl
theorem ag38 : agT Try.prog 38 2 = true := by kernel_rfl
theorem sz38 : szOf Try.prog 38 = some 2 := by kernel_rfl

theorem pair_fields {h : Heap} {p : Addr} {x : Pr} (hp : ∀ j v, (PairE.enc x)[j]? = some v → cell h (p.add j) = some v) : cell h (p.add 0) = some (.string x.1) ∧ cell h (p.add 1) = some (.string x.2) :=
  ⟨hp 0 _ rfl, hp 1 _ rfl⟩

/-- a pair of a slice: its address, its two cells. -/
theorem pair_at {h : Heap} {a : Option Addr} {n : Nat} {xs : List Pr} (hs : Sl PairE h a n xs) {i : Nat} (hi : i < n) :
    ∃ p, a = some p ∧ ∃ hx : i < xs.length, cell h (p.add (i * 2)) = some (.string xs[i].1) ∧ cell h (p.add (i * 2 + 1)) = some (.string xs[i].2) := by
  have hx : i < xs.length := by rw [hs.1]; exact hi
  obtain ⟨p, e, hp⟩ := hs.get (List.getElem?_eq_getElem hx)
  exact ⟨p, e, hx, hp 0 _ rfl, hp 1 _ rfl⟩
theorem pair_load {h : Heap} {p : Addr} {k : Nat} {x y : Str} (h0 : cell h (p.add k) = some (.string x)) (h1 : cell h (p.add (k + 1)) = some (.string y)) :
    Reads Try.prog (Instr.loadAt 38 (.pointer (some (p.add k)))) h (.agg (Array.mk [.string x, .string y])) :=
  reads_load_agg (cs := [.string x, .string y]) ag38 rfl fun j v hv => by
    rw [Addr.add_add]
    match j, hv with
    | 0, hv => simp at hv; subst hv; exact h0
    | 1, hv => simp at hv; subst hv; exact h1
    | j + 2, hv => simp at hv

/- Get -/
def getL : List Pr → Str → Int → Int
  | [], _, _ => -1
  | p :: ps, s, i => if p.1.toList == s.toList then i else getL ps s (i + 1)

theorem one_str (x y : Str) : oneCells [Value.string x, Value.string y] := fun v hv => by
  simp at hv; rcases hv with rfl | rfl <;> exact one_string _

theorem get_spec {h : Heap} {A0 : Option Addr} {n0 c0 : Nat} {s : Str} {xs : List Pr} (hs : Sl PairE h A0 n0 xs) (hn : n0 ≤ 9223372036854775807) :
    HC Try.prog 33 #[.slice A0 n0 c0, .string s] h fun v h' => Keep h.size h h' ∧ v = .int .i64 (getL xs s 0) := by
  refine HC_of_vc (args := [.slice A0 n0 c0, .string s]) (base := 20) (cuts := []) (bigs := []) hm Try.func33 ?_
  rw [vc33]
  refine ⟨fun _ n3 h4 => ∃ k : Nat, n3 = k ∧ k ≤ n0 ∧ Keep h.size h h4 ∧ getL xs s 0 = getL (xs.drop k) s k, fun _ n3 _ => n0 - n3.toNat, ⟨0, rfl, by omega, Keep.refl _ _, by simp⟩, ?_⟩
  rintro n2 n3 h4 ⟨k, rfl, hk, hkeep, hg⟩
  refine br_intro (fun hlt => ?_) (fun hge => ?_)
  · have hlt : k < n0 := by simpa using hlt
    obtain ⟨p, rfl, hx, c1, c2⟩ := pair_at hs hlt
    refine ⟨p, ⟨rfl, by omega, by omega⟩, _, _, pair_load (hkeep.cell_some c1) (hkeep.cell_some c2), ?_⟩
    refine svc_store_new (v := .agg _) sz38 rfl (one_str _ _) ?_
    refine ⟨_, reads_load sc9 (by rw [cell_push]; rfl), ?_⟩
    have hk' := hkeep.of_push hkeep.size (Obj.cells #[.string xs[k].1, .string xs[k].2] 38)
    rw [List.drop_eq_getElem_cons hx, getL] at hg
    refine br_intro (fun he => ?_) (fun he => ?_)
    · rw [if_pos he] at hg
      exact ⟨hk', by rw [hg]⟩
    · rw [if_neg (by rw [he]; simp)] at hg
      rw [wrap_i64 (by omega) (by omega)]
      exact ⟨⟨k + 1, rfl, hlt, hk', by rw [hg]; rfl⟩, by dsimp only; omega⟩
  · have : k = n0 := by simp at hge; omega
    subst this
    rw [List.drop_eq_nil_of_le (by rw [hs.1]; exact Nat.le_refl _)] at hg
    exact ⟨hkeep, by rw [hg]; rfl⟩
end Go.Proofs.Ytepnckpaknabpaa
