/-
  Contracts of the reference's Of of merge, of alive and of the law MergeOf. Conditions: stated at each.
-/
import Derived.Test.YtepnckpaknabpaaM2
set_option linter.unusedVariables false
namespace Go.Proofs.Ytepnckpaknabpaa
open Go Go.Vc Go.Proofs

theorem eqBoolE (x y : Operand) (b c : Bool) (h : Heap) : Reads Try.prog (eqSem .eql 4 x y (.bool b) (.bool c)) h (.bool (b == c)) :=
  ⟨fun w _ => by
    have hu : Try.prog.underlying 4 = some .bool := by kernel_rfl
    simp [eqSem, eqGuard, binOp, Op.equal, Op.maxDepth, run_equalIn_bool w 9999 4 b c hu]⟩
def refF (xs ys zs : List Pr) (k : Str) : List Pr := if badF xs ys zs k then [] else outF xs ys zs k
theorem ref_out (xs ys zs : List Pr) : ∀ K : List Str, K.filter (badF xs ys zs) = [] → K.flatMap (refF xs ys zs) = K.flatMap (outF xs ys zs)
  | [], _ => rfl
  | k :: K, h => by
    have hk : badF xs ys zs k = false := by
      cases hb : badF xs ys zs k with
      | false => rfl
      | true => rw [List.filter_cons_of_pos hb] at h; cases h
    rw [List.filter_cons_of_neg (by rw [hk]; simp)] at h
    rw [List.flatMap_cons, List.flatMap_cons, ref_out xs ys zs K h, refF, if_neg (by rw [hk]; simp)]
theorem bad_cond (x y z : Str × Bool) : (!(y.1.toList == x.1.toList && (y.2 == x.2)) && !(z.1.toList == x.1.toList && (z.2 == x.2)) && (!y.1.toList == z.1.toList || (y.2 != z.2))) =
    (!eqE y x && !(eqE z x || eqE y z)) := by
  unfold eqE
  generalize (y.1.toList == x.1.toList) = a
  generalize (z.1.toList == x.1.toList) = b
  generalize (y.1.toList == z.1.toList) = c
  obtain ⟨_, x⟩ := x; obtain ⟨_, y⟩ := y; obtain ⟨_, z⟩ := z
  cases a <;> cases b <;> cases c <;> cases x <;> cases y <;> cases z <;> rfl

theorem ref20_spec {h : Heap} {A0 A1 A2 : Option Addr} {n0 c0 n1 c1 n2 c2 : Nat} {xs ys zs : List Pr} (h0 : Sl PairE h A0 n0 xs) (h1 : Sl PairE h A1 n1 ys) (h2 : Sl PairE h A2 n2 zs)
    (hn0 : n0 ≤ 67108864) (hn1 : n1 ≤ 67108864) (hn2 : n2 ≤ 67108864) :
    HC Try.prog 21 #[.slice A0 n0 c0, .slice A1 n1 c1, .slice A2 n2 c2] h fun v h' => Keep h.size h h' ∧ ∃ a n c a' n' c', v = .tuple #[.slice a n c, .slice a' n' c'] ∧
      Own PairE 38 h.size h' a n c (mO xs ys zs) ∧ Own StrE 9 h.size h' a' n' c' (mB xs ys zs) := by
  refine HC_of_vc (args := [.slice A0 n0 c0, .slice A1 n1 c1, .slice A2 n2 c2]) (base := 100) (cuts := []) (bigs := []) hm Try.func21 ?_
  rw [vc21]
  have l0 := h0.1
  have l1 := h1.1
  have l2 := h2.1
  refine svc_buildSlice (bs61c _ _ _ _ _ _ _ _ _) ⟨_, _, _, rfl, ?_⟩
  obtain ⟨ls1, ls2⟩ := lists3 (c0 := c0) (c1 := c1) (c2 := c2) h0 h1 h2
  have kp := Keep.push h.size h (Obj.cells #[.slice A0 n0 c0, .slice A1 n1 c1, .slice A2 n2 c2] 22) (Nat.le_refl _)
  refine (keys_spec ls1 ls2 (by simp; omega) (by omega)).mono ?_
  rintro v h6 ⟨k6, a7, c7, rfl, hkeys⟩
  refine ⟨_, _, _, rfl, ?_⟩
  have kh6 : Keep h.size h h6 := kp.trans (k6.mono kp.size)
  have hKl : (keys3 xs ys zs).length ≤ n0 + n1 + n2 := by
    have := keysL_len [xs, ys, zs]
    simp only [List.flatten_cons, List.flatten_nil, List.append_nil, List.length_append] at this
    unfold keys3; omega
  change Sl StrE h6 a7 (keys3 xs ys zs).length (keys3 xs ys zs) at hkeys
  have eB0 : mB xs ys zs = (keys3 xs ys zs).filter (badF xs ys zs) := rfl
  have eO0 : mO xs ys zs = if ((keys3 xs ys zs).filter (badF xs ys zs)).isEmpty then (keys3 xs ys zs).flatMap (outF xs ys zs) else [] := rfl
  rw [eB0, eO0]
  change ∃ (I10 : Option Addr → Nat → Nat → Option Addr → Nat → Nat → Int → Heap → Prop), _
  rw [show keysL [xs, ys, zs] = keys3 xs ys zs from rfl]
  generalize hKK : keys3 xs ys zs = K at *
  refine ⟨fun a12 k13 k14 a15 k16 k17 n18 h19 => ∃ k : Nat, n18 = k ∧ k ≤ K.length ∧ Keep h6.size h6 h19 ∧ Own PairE 38 h6.size h19 a12 k13 k14 ((K.take k).flatMap (refF xs ys zs)) ∧
      Own StrE 9 h6.size h19 a15 k16 k17 ((K.take k).filter (badF xs ys zs)) ∧ (∀ i, blk a12 i → ¬ blk a15 i) ∧ k13 ≤ k ∧ k16 ≤ k,
    fun _ _ _ _ _ _ n18 _ => K.length - n18.toNat, ⟨0, rfl, by omega, Keep.refl _ _, Own.nil _ _ _, Own.nil _ _ _, (fun i ⟨p, e, _⟩ => by cases e), by omega, by omega⟩, ?_⟩
  rintro a12 k13 k14 a15 k16 k17 n18 h19 ⟨k, rfl, hk, hkeep, own12, own15, dis, m13, m16⟩
  refine br_intro (fun hlt => ?_) (fun hge => ?_)
  · have hlt : k < K.length := by simpa using hlt
    obtain ⟨p, rfl, hx, cc⟩ := str_at hkeys hlt
    refine ⟨p, ⟨rfl, by omega, by omega⟩, _, reads_load sc9 (hkeep.cell_some cc), ?_⟩
    have htake : K.take (k + 1) = K.take k ++ [K[k]] := List.take_succ_eq_append_getElem hx
    generalize K[k] = key at *
    have kh19 := kh6.trans (hkeep.mono kh6.size)
    refine (entry_spec (s := key) (h0.keep kh19) (by omega)).mono ?_
    rintro v h23 ⟨k23, rfl⟩
    refine ⟨_, _, rfl, ?_⟩
    have kh23 := kh19.trans (k23.mono kh19.size)
    refine (entry_spec (s := key) (h1.keep kh23) (by omega)).mono ?_
    rintro v h27 ⟨k27, rfl⟩
    refine ⟨_, _, rfl, ?_⟩
    have kh27 := kh23.trans (k27.mono kh23.size)
    refine (entry_spec (s := key) (h2.keep kh27) (by omega)).mono ?_
    rintro v h31 ⟨k31, rfl⟩
    refine ⟨_, _, rfl, ?_⟩
    have kk31 : Keep h19.size h19 h31 := (k23.trans (k27.mono k23.size)).trans (k31.mono (Nat.le_trans k23.size k27.size))
    have hk31 := hkeep.trans (kk31.mono hkeep.size)
    have own12' := own12.upd (kk31.upd fun _ => False) (fun _ _ h => h)
    have own15' := own15.upd (kk31.upd fun _ => False) (fun _ _ h => h)
    have no12 : ∀ i, blk a12 i → h6.size ≤ i ∧ i < h31.size := fun i hi => own12'.block i hi
    have no15 : ∀ i, blk a15 i → h6.size ≤ i ∧ i < h31.size := fun i hi => own15'.block i hi
    refine ⟨_, fun _ => eqBoolE _ _ _ _ _, _, fun _ => eqBoolE _ _ _ _ _, _, fun _ => eqBool _ _ _ _ _, ?_⟩
    rw [wrap_i64 (by omega) (by omega), bad_cond (entL xs key) (entL ys key) (entL zs key)]
    change br (badF xs ys zs key) _ _
    refine br_intro (fun hb => ?_) (fun hb => ?_)
    · refine svc_append1 (x := key) app29 own15' hk31.size (bs29 _) (by omega) fun a' c' h' o' u' b' => ?_
      refine ⟨⟨k + 1, rfl, hlt, hk31.trans (u'.keep hk31.size fun i hi => (no15 i hi).1), ?_, ?_, fun i hi hi' => ?_, by omega, by omega⟩, by dsimp only; omega⟩
      · rw [htake, flatMap_snoc, refF, if_pos hb, List.append_nil]
        exact own12'.upd u' fun i hi h => dis i hi h
      · rw [htake, List.filter_append, List.filter_cons_of_pos hb, List.filter_nil]; exact o'
      · rcases b' i hi' with h1 | h1
        · exact dis i hi h1
        · have := (no12 i hi).2; omega
    · have own15'' : Own StrE 9 h6.size h31 a15 k16 k17 ((K.take (k + 1)).filter (badF xs ys zs)) := by
        rw [htake, List.filter_append, List.filter_cons_of_neg (by rw [hb]; simp), List.filter_nil, List.append_nil]; exact own15'
      have hr : refF xs ys zs key = outF xs ys zs key := by rw [refF, if_neg (by rw [hb]; simp)]
      have more : ∀ (a' : Option Addr) (c' : Nat) (h' : Heap) (e : Str), outF xs ys zs key = [(key, e)] → Own PairE 38 h6.size h' a' (k13 + 1) c' ((K.take k).flatMap (refF xs ys zs) ++ [(key, e)]) → Upd (blk a12) h31 h' →
          (∀ i, blk a' i → blk a12 i ∨ h31.size ≤ i) →
          (∃ k_1 : Nat, ((k : Int) + 1) = (k_1 : Int) ∧ k_1 ≤ K.length ∧ Keep h6.size h6 h' ∧ Own PairE 38 h6.size h' a' (k13 + 1) c' ((K.take k_1).flatMap (refF xs ys zs)) ∧
            Own StrE 9 h6.size h' a15 k16 k17 ((K.take k_1).filter (badF xs ys zs)) ∧ (∀ i, blk a' i → ¬ blk a15 i) ∧ k13 + 1 ≤ k_1 ∧ k16 ≤ k_1) ∧ K.length - ((k : Int) + 1).toNat < K.length - ((k : Int)).toNat := by
        intro a' c' h' e he o' u' b'
        refine ⟨⟨k + 1, rfl, hlt, hk31.trans (u'.keep hk31.size fun i hi => (no12 i hi).1), ?_, own15''.upd u' fun i hi h => dis i h hi, fun i hi hi' => ?_, by omega, by omega⟩, by omega⟩
        · rw [htake, flatMap_snoc, hr, he]; exact o'
        · rcases b' i hi with h1 | h1
          · exact dis i h1 hi'
          · have := (no15 i hi').2; omega
      have same : outF xs ys zs key = [] → (∃ k_1 : Nat, ((k : Int) + 1) = (k_1 : Int) ∧ k_1 ≤ K.length ∧ Keep h6.size h6 h31 ∧ Own PairE 38 h6.size h31 a12 k13 k14 ((K.take k_1).flatMap (refF xs ys zs)) ∧
            Own StrE 9 h6.size h31 a15 k16 k17 ((K.take k_1).filter (badF xs ys zs)) ∧ (∀ i, blk a12 i → ¬ blk a15 i) ∧ k13 ≤ k_1 ∧ k16 ≤ k_1) ∧ K.length - ((k : Int) + 1).toNat < K.length - ((k : Int)).toNat := by
        intro he
        refine ⟨⟨k + 1, rfl, hlt, hk31, ?_, own15'', dis, by omega, by omega⟩, by omega⟩
        rw [htake, flatMap_snoc, hr, he, List.append_nil]; exact own12'
      change br (eqE (entL ys key) (entL xs key)) _ _
      refine br_intro (fun hl => ?_) (fun hl => ?_)
      · have pick : pickF xs ys zs key = entL zs key := by unfold pickF; rw [if_pos hl]
        refine br_intro (fun hy => ?_) (fun hy => ?_)
        · refine svc_append1 (x := (key, (entL zs key).1)) app22 own12' hk31.size (bs22 _ _) (by omega) fun a' c' h' o' u' b' => ?_
          exact more a' c' h' _ (by unfold outF; rw [pick, if_pos hy]) o' u' b'
        · exact same (by unfold outF; rw [pick, if_neg (by rw [hy]; simp)])
      · have pick : pickF xs ys zs key = entL ys key := by unfold pickF; rw [if_neg (by rw [hl]; simp)]
        refine br_intro (fun hy => ?_) (fun hy => ?_)
        · refine svc_append1 (x := (key, (entL ys key).1)) app22 own12' hk31.size (bs22 _ _) (by omega) fun a' c' h' o' u' b' => ?_
          exact more a' c' h' _ (by unfold outF; rw [pick, if_pos hy]) o' u' b'
        · exact same (by unfold outF; rw [pick, if_neg (by rw [hy]; simp)])
  · have : k = K.length := by simp at hge; omega
    subst this
    rw [List.take_of_length_le (Nat.le_refl _)] at own12 own15
    have o15 := own15.1
    have kh19 := kh6.trans (hkeep.mono kh6.size)
    refine br_intro (fun hc => ?_) (fun hc => ?_)
    · have hpos : 0 < (K.filter (badF xs ys zs)).length := by simp at hc; omega
      have : (K.filter (badF xs ys zs)).isEmpty = false := by cases hf : K.filter (badF xs ys zs) with
        | nil => rw [hf] at hpos; simp at hpos
        | cons _ _ => rfl
      rw [this]
      exact ⟨kh19, _, _, _, _, _, _, rfl, Own.nil _ _ _, own15.mono kh6.size⟩
    · have h0 : k16 = 0 := by simp at hc; omega
      have hnil : K.filter (badF xs ys zs) = [] := List.eq_nil_of_length_eq_zero (by omega)
      rw [hnil]
      rw [ref_out xs ys zs K hnil] at own12
      exact ⟨kh19, _, _, _, _, _, _, rfl, own12.mono kh6.size, Own.nil _ _ _⟩
end Go.Proofs.Ytepnckpaknabpaa
