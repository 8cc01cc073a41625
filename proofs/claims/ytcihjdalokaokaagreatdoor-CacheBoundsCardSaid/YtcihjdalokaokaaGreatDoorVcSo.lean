/-
  slices.SortFunc at elements of several cells, told by heaps: a row of the call's own. Conditions: the contract that the shelf lays.
-/
import Derived.Test.YtcihjdalokaokaaGreatDoorVcY
import Derived.Shelf.SlSortCmp.WholeK
set_option linter.unusedSimpArgs false
set_option linter.unusedVariables false
namespace Go.Vc
open Go Go.Sort Go.Proofs

theorem holdsK_of {α : Type} [Inhabited α] {E : Enc α} {w : World} {b : Nat} {cells : Array Value} {T : TypeId} {xs : List α} {rest : List Value} (hb : w.heap[b]? = some (.cells cells T (0, 0))) (hr : cells.toList = xs.flatMap E.enc ++ rest) : HoldsK E.enc E.sz w b 0 xs.toArray := by
  intro j hj
  rw [size_flatK, List.size_toArray] at hj
  have hsz : 0 < E.sz := by
    rcases Nat.eq_zero_or_pos E.sz with h | h
    · rw [h] at hj; omega
    · exact h
  have h1 : j / E.sz < xs.length := Nat.div_lt_of_lt_mul (by rw [Nat.mul_comm]; exact hj)
  have h2 : j % E.sz < E.sz := Nat.mod_lt _ hsz
  have hlen : (E.enc xs[j / E.sz]).length = E.sz := E.len _
  have hc : (xs.flatMap E.enc)[j]? = some ((E.enc xs[j / E.sz])[j % E.sz]'(by rw [hlen]; exact h2)) := by
    have := flat_get (E := E) xs (i := j / E.sz) (x := xs[j / E.sz]) (j := j % E.sz) (List.getElem?_eq_getElem h1) (List.getElem?_eq_getElem (by rw [hlen]; exact h2))
    rwa [Nat.mul_comm, Nat.div_add_mod] at this
  have hcell : cells[j]? = some ((E.enc xs[j / E.sz])[j % E.sz]'(by rw [hlen]; exact h2)) := by
    rw [← Array.getElem?_toList, hr, List.getElem?_append_left (by rw [flat_len]; exact hj)]
    exact hc
  have hfl : (flatK E.enc E.sz xs.toArray)[j]! = (E.enc xs[j / E.sz])[j % E.sz]'(by rw [hlen]; exact h2) := by
    rw [get_flatK _ _ _ _ (by rw [List.size_toArray]; exact hj)]
    have e1 : xs.toArray[j / E.sz]! = xs[j / E.sz] := by simp [h1]
    rw [e1]
    rw [getElem!_pos _ _ (by rw [hlen]; exact h2)]
  refine ⟨?_, ?_⟩
  · rw [cell_eq, Nat.zero_add]
    rw [cell_at hb, hcell, hfl]; rfl
  · rw [froz_eq]
    unfold froz
    dsimp only
    rw [hb]
    simp
theorem onCells_mark {F : Array Value → Array Value} {o : Obj} (h : isMark o = true) : onCells F o = o := by
  cases o <;> first | rfl | cases h
theorem sort_hc {α : Type} [Inhabited α] {E : Enc α} {P : Program} {T f g : Nat} {h : Heap} {B n c : Nat} {a : Option Addr} {xs : List α} {lt : α → α → Bool} (ho : Own E T B h a n c xs) (hn : n < 4611686018427387904)
    (hcall : ∀ (b cap : Nat) (d : Array α) (w : World), HoldsK E.enc E.sz w b 0 d → b < w.heap.size → d.size < 4611686018427387904 → Calls P f #[.slice (some ⟨b, 0, none⟩) d.size cap, .func (.func g) #[] #[]] w fun e w' => e = .returned (.tuple #[]) ∧ ∃ d' m os, PermIn 0 d.size d d' ∧ SortedIn lt 0 d.size d' ∧ w' = sortWorldK E.enc E.sz w b 0 m d' os)
    (hnone : ∀ (cap : Nat) (w : World), Calls P f #[.slice none 0 cap, .func (.func g) #[] #[]] w fun e w' => e = .returned (.tuple #[]) ∧ w' = w) :
    HC P f #[.slice a n c, .func (.func g) #[] #[]] h fun v h' => v = .tuple #[] ∧ ∃ ys, Own E T B h' a n c ys ∧ ys.Perm xs ∧ ys.Pairwise (fun x y => lt y x = false) ∧ Upd (blk a) h h' := by
  obtain ⟨h1, h2, h3⟩ := ho
  rcases h3 with ⟨rfl, rfl⟩ | ⟨b, cells, rfl, hB, hb, hc, rest, hr⟩
  · have hn0 : n = 0 := by omega
    subst hn0
    have hx : xs = [] := List.eq_nil_of_length_eq_zero h1
    subst hx
    refine ⟨fun w hw => (hnone 0 w).mono fun e w' ⟨he, hw'⟩ => ⟨_, he, by rw [hw']; exact Sane.refl _, rfl, [], ?_, List.Perm.refl _, List.Pairwise.nil, ?_⟩⟩
    · rw [hw', hw]; exact ⟨rfl, Nat.zero_le _, .inl ⟨rfl, rfl⟩⟩
    · rw [hw', hw]; exact Upd.refl _ _
  · refine ⟨fun w hw => ?_⟩
    subst hw
    have hH := holdsK_of (E := E) hb hr
    have hbl := at_lt hb
    have hd : (xs.toArray).size = n := by rw [List.size_toArray]; exact h1
    have call := hcall b c xs.toArray w hH hbl (by omega)
    rw [hd] at call
    refine call.mono ?_
    rintro e w' ⟨rfl, d', m, os, hp, hs, rfl⟩
    have hps := hp.1
    have hp2 := hp.2.2
    rw [hd] at hps
    have hheap : (sortWorldK E.enc E.sz w b 0 m d' os).heap = (w.heap.modify b (onCells (putCells id 0 (flatK E.enc E.sz d')))) ++ os := rfl
    have hoth : ∀ q, q < w.heap.size → q ≠ b → (sortWorldK E.enc E.sz w b 0 m d' os).heap[q]? = w.heap[q]? := fun q hq hne => by
      rw [hheap, Array.getElem?_append_left (by simpa using hq), Array.getElem?_modify, if_neg (Ne.symm hne)]
    have hat : (sortWorldK E.enc E.sz w b 0 m d' os).heap[b]? = some (.cells (putCells id 0 (flatK E.enc E.sz d') cells) T (0, 0)) := by
      rw [hheap, Array.getElem?_append_left (by simpa using hbl), Array.getElem?_modify, if_pos rfl, hb]; rfl
    have hsz : w.heap.size ≤ (sortWorldK E.enc E.sz w b 0 m d' os).heap.size := by rw [hheap]; simp
    refine ⟨_, rfl, ⟨rfl, rfl, rfl, hsz, fun q o hq hm => ?_⟩, rfl, d'.toList, ⟨?_, h2, .inr ⟨b, _, rfl, hB, hat, ?_, cells.toList.drop (n * E.sz), ?_⟩⟩, ?_, ?_, ⟨hsz, fun q hq hn' => hoth q hq fun e => hn' ⟨_, rfl, e.symm⟩⟩⟩
    · by_cases e : q = b
      · subst e; rw [hb] at hq; cases hq; cases hm
      · rw [hoth q (Array.getElem?_eq_some_iff.1 hq).1 e]; exact hq
    · rw [Array.length_toList]; exact hps
    · simp [putCells, hc]
    · have hfl : (d'.toList.flatMap E.enc).length = n * E.sz := by rw [flat_len, Array.length_toList, hps]
      have hcl : cells.toList.length = c * E.sz := by rw [Array.length_toList]; exact hc
      have hle : n * E.sz ≤ c * E.sz := Nat.mul_le_mul_right _ h2
      refine List.ext_getElem? fun j => ?_
      rw [Array.getElem?_toList]
      have e0 : (putCells id 0 (flatK E.enc E.sz d') cells)[j]? = (cells[j]?).map fun x => if j < n * E.sz then (flatK E.enc E.sz d')[j]! else x := by
        unfold putCells
        rw [Array.getElem?_mapIdx, size_flatK, hps]
        simp
      rw [e0]
      by_cases hj : j < n * E.sz
      · rw [List.getElem?_append_left (by rw [hfl]; exact hj)]
        have hsz0 : 0 < E.sz := by
          rcases Nat.eq_zero_or_pos E.sz with h | h
          · rw [h] at hj; omega
          · exact h
        have g1 : j / E.sz < d'.size := by rw [hps]; exact Nat.div_lt_of_lt_mul (by rw [Nat.mul_comm]; exact hj)
        have g2 : j % E.sz < E.sz := Nat.mod_lt _ hsz0
        have hlen : (E.enc d'[j / E.sz]).length = E.sz := E.len _
        have := flat_get (E := E) d'.toList (i := j / E.sz) (x := d'[j / E.sz]) (j := j % E.sz) (by rw [Array.getElem?_toList, Array.getElem?_eq_getElem g1]) (List.getElem?_eq_getElem (by rw [hlen]; exact g2))
        rw [Nat.mul_comm, Nat.div_add_mod] at this
        rw [this]
        have hjc : j < cells.size := by rw [hc]; omega
        rw [Array.getElem?_eq_getElem hjc]
        simp only [Option.map_some, if_pos hj]
        rw [get_flatK _ _ _ _ (by rw [hps]; exact hj), getElem!_pos d' _ g1, getElem!_pos _ _ (by rw [hlen]; exact g2)]
      · rw [List.getElem?_append_right (by rw [hfl]; omega), hfl, List.getElem?_drop, Array.getElem?_toList]
        have e3 : n * E.sz + (j - n * E.sz) = j := by omega
        rw [e3]
        simp only [if_neg hj]
        cases cells[j]? <;> rfl
    · have e1 : (d'.extract 0 n).toList = d'.toList := by rw [← hps]; simp
      have e2 : (xs.toArray.extract 0 n).toList = xs := by rw [← hd]; simp
      rw [e1, e2] at hp2
      exact hp2
    · rw [List.pairwise_iff_getElem]
      intro i j hi hj hij
      rw [Array.length_toList] at hi hj
      have := hs i j (Nat.zero_le _) hij (by rw [← hps]; exact hj)
      rw [getElem!_pos d' j hj, getElem!_pos d' i hi] at this
      simpa using this
end Go.Vc
