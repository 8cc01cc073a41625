/-
  Contract of merge.Of. Conditions: lists by rising keys.
-/
import Derived.Test.YtepnckpaknabpaaM1
set_option linter.unusedVariables false
namespace Go.Proofs.Ytepnckpaknabpaa
open Go Go.Vc Go.Proofs

def eqE (a b : Str × Bool) : Bool := a.1.toList == b.1.toList && (a.2 == b.2)
theorem eqE_iff {a b : Str × Bool} : eqE a b = true ↔ a = b := by
  unfold eqE
  rw [Bool.and_eq_true, eq_beq]
  exact ⟨fun ⟨h, k⟩ => Prod.ext h (by simpa using k), fun h => by subst h; simp⟩
def badF (xs ys zs : List Pr) (k : Str) : Bool := !eqE (entL ys k) (entL xs k) && !(eqE (entL zs k) (entL xs k) || eqE (entL ys k) (entL zs k))
def pickF (xs ys zs : List Pr) (k : Str) : Str × Bool := if eqE (entL ys k) (entL xs k) then entL zs k else entL ys k
def outF (xs ys zs : List Pr) (k : Str) : List Pr := if (pickF xs ys zs k).2 then [(k, (pickF xs ys zs k).1)] else []
def keys3 (xs ys zs : List Pr) : List Str := keysL [xs, ys, zs]
def mB (xs ys zs : List Pr) : List Str := (keys3 xs ys zs).filter (badF xs ys zs)
def mO (xs ys zs : List Pr) : List Pr := if (mB xs ys zs).isEmpty then (keys3 xs ys zs).flatMap (outF xs ys zs) else []

theorem flat54 : Flat Try.prog 54 (Try.prog.fieldsOf 54) := ⟨by kernel_rfl, by kernel_rfl, by kernel_rfl⟩
theorem eq54 (a b : Str × Bool) : eqFl Try.prog [.string a.1, .bool a.2] [.string b.1, .bool b.2] (Try.prog.fieldsOf 54).toList = some (a.1.toList == b.1.toList && (a.2 == b.2 && true)) := by kernel_rfl
theorem reads_eqE (a b : Str × Bool) (x y : Operand) (h : Heap) :
    Reads Try.prog (eqSem .eql 54 x y (.agg (Array.mk [.string a.1, .bool a.2])) (.agg (Array.mk [.string b.1, .bool b.2]))) h (.bool (eqE a b)) := by
  have := (reads_eq (h := h) (x := x) (y := y) (xs := Array.mk [.string a.1, .bool a.2]) (ys := Array.mk [.string b.1, .bool b.2]) flat54 (eq54 a b)).1
  rw [Bool.and_true] at this
  exact this

theorem srt_tail_above {p : Pr} {l : List Pr} (h : Srt (ks (p :: l))) : ∀ q ∈ ks l, lt p.1 q = true := (List.pairwise_cons.1 (show Srt (p.1 :: ks l) from h)).1
theorem pst_srt {l : List Pr} {k : Str} (h : Srt (ks l)) : Srt (ks (pst l k)) := by
  cases l with
  | nil => exact h
  | cons p l =>
    rw [pst]
    split
    · exact (List.pairwise_cons.1 (show Srt (p.1 :: ks l) from h)).2
    · exact h
theorem pst_len (l : List Pr) (k : Str) : (pst l k).length ≤ l.length := by
  cases l with
  | nil => simp [pst]
  | cons p l => rw [pst]; split <;> simp
theorem pst_mem {l : List Pr} {k : Str} (h : Srt (ks l)) (hk : ∀ q ∈ ks l, lt q k = false) (q : Str) : q ∈ ks (pst l k) ↔ q ∈ ks l ∧ q ≠ k := by
  cases l with
  | nil => simp [pst, ks]
  | cons p l =>
    have ha := srt_tail_above h
    rw [pst]
    split
    · rename_i e
      have e := eq_beq.1 e
      subst e
      refine ⟨fun hq => ⟨List.mem_cons_of_mem _ hq, fun e => by subst e; exact above ha hq⟩, fun ⟨hq, hne⟩ => ?_⟩
      exact (List.mem_cons.1 (show q ∈ p.1 :: ks l from hq)).resolve_left hne
    · rename_i e
      have hne : p.1 ≠ k := fun e' => e (eq_beq.2 e')
      have hlt : lt k p.1 = true := by
        cases hx : lt k p.1 with
        | true => rfl
        | false => exact absurd (lt_total (hk p.1 (by simp [ks])) hx) hne
      refine ⟨fun hq => ⟨hq, fun e => ?_⟩, fun hq => hq.1⟩
      subst e
      rcases List.mem_cons.1 (show q ∈ p.1 :: ks l from hq) with rfl | hq'
      · exact hne rfl
      · have := lt_trans hlt (ha q hq'); rw [lt_irrefl] at this; cases this
theorem pst_less {l : List Pr} {k : Str} (h : Srt (ks l)) (hk : ∀ q ∈ ks l, lt q k = false) (hm : k ∈ ks l) : (pst l k).length < l.length := by
  cases l with
  | nil => simp [ks] at hm
  | cons p l =>
    rw [pst]
    split
    · simp
    · rename_i e
      exfalso
      rcases List.mem_cons.1 (show k ∈ p.1 :: ks l from hm) with rfl | hq
      · exact e (eq_beq.2 rfl)
      · have := srt_tail_above h k hq
        rw [hk p.1 (by simp [ks])] at this; cases this
/-- the least key of three lists, and what is left behind it. -/
theorem nxt_three {us vs ws : List Pr} {K2 : List Str} (hu : Srt (ks us)) (hv : Srt (ks vs)) (hw : Srt (ks ws)) (hK : Srt K2) (hm : ∀ q, q ∈ K2 ↔ q ∈ ks us ∨ q ∈ ks vs ∨ q ∈ ks ws) :
    ((nxtL [us, vs, ws] ⟨#[]⟩ false).2 = false → K2 = []) ∧
    ((nxtL [us, vs, ws] ⟨#[]⟩ false).2 = true → ∃ K3, K2 = (nxtL [us, vs, ws] ⟨#[]⟩ false).1 :: K3 ∧
      (∀ q, q ∈ K3 ↔ q ∈ ks (pst us (nxtL [us, vs, ws] ⟨#[]⟩ false).1) ∨ q ∈ ks (pst vs (nxtL [us, vs, ws] ⟨#[]⟩ false).1) ∨ q ∈ ks (pst ws (nxtL [us, vs, ws] ⟨#[]⟩ false).1)) ∧
      (pst us (nxtL [us, vs, ws] ⟨#[]⟩ false).1).length + (pst vs (nxtL [us, vs, ws] ⟨#[]⟩ false).1).length + (pst ws (nxtL [us, vs, ws] ⟨#[]⟩ false).1).length < us.length + vs.length + ws.length) := by
  obtain ⟨h1, h2⟩ := nxtL_prop [us, vs, ws] ⟨#[]⟩ false
  generalize nxtL [us, vs, ws] ⟨#[]⟩ false = r at *
  refine ⟨fun h => ?_, fun h => ?_⟩
  · have := (h1 h).2
    have e1 := this us (by simp); have e2 := this vs (by simp); have e3 := this ws (by simp)
    subst e1 e2 e3
    exact List.eq_nil_iff_forall_not_mem.2 fun q hq => by have := (hm q).1 hq; simp [ks] at this
  · obtain ⟨g1, _, g3⟩ := h2 h
    obtain ⟨l, hl, p, l', e, er⟩ := g1.resolve_left (fun h => by cases h.1)
    have bound : ∀ l ∈ [us, vs, ws], Srt (ks l) → ∀ q ∈ ks l, lt q r.1 = false := by
      intro l hl hs q hq
      cases l with
      | nil => simp [ks] at hq
      | cons a l =>
        have ha := g3 _ hl a l rfl
        rcases List.mem_cons.1 (show q ∈ a.1 :: ks l from hq) with rfl | hq
        · exact ha
        · have hb := srt_tail_above hs q hq
          cases hx : lt q r.1 with
          | false => rfl
          | true => rw [lt_trans hb hx] at ha; cases ha
    have bu := bound us (by simp) hu
    have bv := bound vs (by simp) hv
    have bw := bound ws (by simp) hw
    have hrl : r.1 ∈ ks l := by rw [e, er]; simp [ks]
    have hin : r.1 ∈ ks us ∨ r.1 ∈ ks vs ∨ r.1 ∈ ks ws := by
      simp only [List.mem_cons, List.not_mem_nil, or_false] at hl
      rcases hl with rfl | rfl | rfl
      · exact .inl hrl
      · exact .inr (.inl hrl)
      · exact .inr (.inr hrl)
    have hrK := (hm r.1).2 hin
    cases K2 with
    | nil => cases hrK
    | cons k K3 =>
      have hK' := List.pairwise_cons.1 hK
      have hk : k = r.1 := by
        rcases List.mem_cons.1 hrK with e | e
        · exact e.symm
        · have h1 := hK'.1 _ e
          have h2 : lt k r.1 = false := ((hm k).1 List.mem_cons_self).elim (bu k) (fun h => h.elim (bv k) (bw k))
          rw [h1] at h2; cases h2
      subst hk
      refine ⟨K3, rfl, fun q => ?_, ?_⟩
      · rw [pst_mem hu bu, pst_mem hv bv, pst_mem hw bw]
        have : q ∈ K3 ↔ q ∈ r.1 :: K3 ∧ q ≠ r.1 := ⟨fun hq => ⟨List.mem_cons_of_mem _ hq, fun e => by subst e; have := hK'.1 _ hq; rw [lt_irrefl] at this; cases this⟩,
          fun ⟨hq, hne⟩ => (List.mem_cons.1 hq).resolve_left hne⟩
        rw [this, hm q]
        constructor
        · rintro ⟨h | h | h, hne⟩
          · exact .inl ⟨h, hne⟩
          · exact .inr (.inl ⟨h, hne⟩)
          · exact .inr (.inr ⟨h, hne⟩)
        · rintro (⟨h, hne⟩ | ⟨h, hne⟩ | ⟨h, hne⟩)
          · exact ⟨.inl h, hne⟩
          · exact ⟨.inr (.inl h), hne⟩
          · exact ⟨.inr (.inr h), hne⟩
      · have l1 := pst_len us r.1
        have l2 := pst_len vs r.1
        have l3 := pst_len ws r.1
        rcases hin with h | h | h
        · have := pst_less hu bu h; omega
        · have := pst_less hv bv h; omega
        · have := pst_less hw bw h; omega

theorem keysL_len (L : List (List Pr)) : (keysL L).length ≤ L.flatten.length := by
  have := fold_len L.flatten []
  simp [keysL] at this ⊢; omega
theorem bs61c (a b d : Option Addr) (n c m e k f : Nat) : bsCells Try.prog 61 3 [(0, .slice a n c), (1, .slice b m e), (2, .slice d k f)] = some (22, [.slice a n c, .slice b m e, .slice d k f]) := by kernel_rfl
theorem lists3 {h : Heap} {A0 A1 A2 : Option Addr} {n0 c0 n1 c1 n2 c2 : Nat} {xs ys zs : List Pr} (h0 : Sl PairE h A0 n0 xs) (h1 : Sl PairE h A1 n1 ys) (h2 : Sl PairE h A2 n2 zs) :
    Sl SliE (h.push (Obj.cells #[.slice A0 n0 c0, .slice A1 n1 c1, .slice A2 n2 c2] 22)) (some ⟨h.size, 0, none⟩) 3 [(A0, n0, c0), (A1, n1, c1), (A2, n2, c2)] ∧
    Lists (h.push (Obj.cells #[.slice A0 n0 c0, .slice A1 n1 c1, .slice A2 n2 c2] 22)) [(A0, n0, c0), (A1, n1, c1), (A2, n2, c2)] [xs, ys, zs] := by
  have kp := Keep.push h.size h (Obj.cells #[.slice A0 n0 c0, .slice A1 n1 c1, .slice A2 n2 c2] 22) (Nat.le_refl _)
  refine ⟨⟨rfl, .inr ⟨_, rfl, fun i x hx j v hv => ?_⟩⟩, rfl, fun i i1 i2 => ?_⟩
  · rw [Addr.add_row, cell_push]
    match i, hx with
    | 0, hx => simp at hx; subst hx; match j, hv with | 0, hv => simpa [SliE] using hv | j + 1, hv => simp [SliE] at hv
    | 1, hx => simp at hx; subst hx; match j, hv with | 0, hv => simpa [SliE] using hv | j + 1, hv => simp [SliE] at hv
    | 2, hx => simp at hx; subst hx; match j, hv with | 0, hv => simpa [SliE] using hv | j + 1, hv => simp [SliE] at hv
    | i + 3, hx => simp at hx
  · match i, i1 with
    | 0, _ => exact h0.keep kp
    | 1, _ => exact h1.keep kp
    | 2, _ => exact h2.keep kp
theorem outF_len (xs ys zs : List Pr) : ∀ K : List Str, (K.flatMap (outF xs ys zs)).length ≤ K.length
  | [] => by simp
  | k :: K => by
    have := outF_len xs ys zs K
    have h1 : (outF xs ys zs k).length ≤ 1 := by unfold outF; split <;> simp
    simp only [List.flatMap_cons, List.length_append, List.length_cons]; omega
theorem flatMap_snoc {α β : Type} (f : α → List β) (l : List α) (a : α) : (l ++ [a]).flatMap f = l.flatMap f ++ f a := by simp
theorem one_sb (x : Str) (y : Bool) : oneCells [Value.string x, Value.bool y] := fun v hv => by
  simp at hv; rcases hv with rfl | rfl
  · exact one_string _
  · exact one_bool _
theorem sz54 : szOf Try.prog 54 = some 2 := by kernel_rfl

theorem merge_spec {h : Heap} {A0 A1 A2 : Option Addr} {n0 c0 n1 c1 n2 c2 : Nat} {xs ys zs : List Pr} (h0 : Sl PairE h A0 n0 xs) (h1 : Sl PairE h A1 n1 ys) (h2 : Sl PairE h A2 n2 zs)
    (hc0 : n0 ≤ c0) (hc1 : n1 ≤ c1) (hc2 : n2 ≤ c2) (hn0 : n0 ≤ 67108864) (hn1 : n1 ≤ 67108864) (hn2 : n2 ≤ 67108864) (r0 : Srt (ks xs)) (r1 : Srt (ks ys)) (r2 : Srt (ks zs)) :
    HC Try.prog 20 #[.slice A0 n0 c0, .slice A1 n1 c1, .slice A2 n2 c2] h fun v h' => Keep h.size h h' ∧ ∃ a n c a' n' c', v = .tuple #[.slice a n c, .slice a' n' c'] ∧
      Own PairE 38 h.size h' a n c (mO xs ys zs) ∧ Own StrE 9 h.size h' a' n' c' (mB xs ys zs) := by
  refine HC_of_vc (args := [.slice A0 n0 c0, .slice A1 n1 c1, .slice A2 n2 c2]) (base := 90) (cuts := [12]) (bigs := []) hm Try.func20 ?_
  rw [vc20]
  have l0 := h0.1
  have l1 := h1.1
  have l2 := h2.1
  refine (mof_spec h0 (by omega)).mono ?_
  rintro v g1 ⟨kg1, rfl, m1⟩
  refine ⟨_, rfl, ?_⟩
  refine (mof_spec (h1.keep kg1) (by omega)).mono ?_
  rintro v g4 ⟨kg4, rfl, m4⟩
  refine ⟨_, rfl, ?_⟩
  have kk4 := kg1.trans (kg4.mono kg1.size)
  refine (mof_spec (h2.keep kk4) (by omega)).mono ?_
  rintro v g7 ⟨kg7, rfl, m7⟩
  refine ⟨_, rfl, ?_⟩
  have kk7 := kk4.trans (kg7.mono kk4.size)
  have m1' := (m1.keep kg4).keep kg7
  have m4' := m4.keep kg7
  have z1 := m1'.lt
  have z4 := m4'.lt
  have z7 := m7.lt
  have hKl : (keys3 xs ys zs).length ≤ n0 + n1 + n2 := by
    have := keysL_len [xs, ys, zs]
    simp only [List.flatten_cons, List.flatten_nil, List.append_nil, List.length_append] at this
    unfold keys3; omega
  have hKs : Srt (keys3 xs ys zs) := (keysL_srt _).1
  have hKm : ∀ q, q ∈ keys3 xs ys zs ↔ q ∈ ks xs ∨ q ∈ ks ys ∨ q ∈ ks zs := fun q => by
    unfold keys3
    rw [(keysL_srt _).2]
    simp only [ks, List.flatten_cons, List.flatten_nil, List.append_nil, List.map_append, List.mem_append]
  generalize hKK : keys3 xs ys zs = K at *
  refine ⟨fun a11 k12 k13 a14 k15 k16 a17 k18 k19 a20 k21 k22 a23 k24 k25 h26 => ∃ us vs ws K1 K2, Sl PairE h a11 k12 us ∧ k12 ≤ k13 ∧ Sl PairE h a14 k15 vs ∧ k15 ≤ k16 ∧ Sl PairE h a17 k18 ws ∧ k18 ≤ k19 ∧
      Srt (ks us) ∧ Srt (ks vs) ∧ Srt (ks ws) ∧ K = K1 ++ K2 ∧ (∀ q, q ∈ K2 ↔ q ∈ ks us ∨ q ∈ ks vs ∨ q ∈ ks ws) ∧ Keep g7.size g7 h26 ∧
      Own PairE 38 g7.size h26 a20 k21 k22 (K1.flatMap (outF xs ys zs)) ∧ Own StrE 9 g7.size h26 a23 k24 k25 (K1.filter (badF xs ys zs)) ∧ (∀ i, blk a20 i → ¬ blk a23 i),
    fun _ k12 _ _ k15 _ _ k18 _ _ _ _ _ _ _ _ => k12 + k15 + k18,
    ⟨xs, ys, zs, [], K, h0, hc0, h1, hc1, h2, hc2, r0, r1, r2, rfl, hKm, Keep.refl _ _, Own.nil _ _ _, Own.nil _ _ _, fun i ⟨p, e, _⟩ => by cases e⟩, ?_⟩
  rintro a11 k12 k13 a14 k15 k16 a17 k18 k19 a20 k21 k22 a23 k24 k25 h26 ⟨us, vs, ws, K1, K2, su, q1, sv, q2, sw, q3, tu, tv, tw, hK, hm2, hk26, own20, own23, dis⟩
  have kk26 := kk7.trans (hk26.mono kk7.size)
  refine svc_buildSlice (bs61c _ _ _ _ _ _ _ _ _) ⟨_, _, _, rfl, ?_⟩
  obtain ⟨ls1, ls2⟩ := lists3 (c0 := k13) (c1 := k16) (c2 := k19) (su.keep kk26) (sv.keep kk26) (sw.keep kk26)
  have kp28 := Keep.push h26.size h26 (Obj.cells #[.slice a11 k12 k13, .slice a14 k15 k16, .slice a17 k18 k19] 22) (Nat.le_refl _)
  refine (next_spec ls1 ls2 (by omega)).mono ?_
  rintro v h33 ⟨k33, rfl⟩
  have kp33 := kp28.trans (k33.mono kp28.size)
  have hk33 := hk26.trans (kp33.mono hk26.size)
  have own20' := own20.upd (kp33.upd fun _ => False) (fun _ _ h => h)
  have own23' := own23.upd (kp33.upd fun _ => False) (fun _ _ h => h)
  have kh33 : Keep h.size h h33 := kk7.trans (hk33.mono kk7.size)
  have hKs2 : Srt K2 := by rw [hK] at hKs; exact (List.pairwise_append.1 hKs).2.1
  obtain ⟨w1, w2⟩ := nxt_three tu tv tw hKs2 hm2
  refine ⟨_, _, rfl, ?_⟩
  generalize nxtL [us, vs, ws] ⟨#[]⟩ false = r at *
  have hK1l : K1.length ≤ n0 + n1 + n2 := by rw [hK] at hKl; simp at hKl; omega
  have o20 := own20.1
  have o23 := own23.1
  have f20 := outF_len xs ys zs K1
  have f23 : (K1.filter (badF xs ys zs)).length ≤ K1.length := List.length_filter_le _ _
  refine br_intro (fun hb => ?_) (fun hb => ?_)
  · have : K2 = [] := w1 (by simpa using hb)
    subst this
    rw [List.append_nil] at hK
    subst hK
    have eB : mB xs ys zs = K.filter (badF xs ys zs) := by unfold mB; rw [hKK]
    rw [show mO xs ys zs = if (K.filter (badF xs ys zs)).isEmpty then K.flatMap (outF xs ys zs) else [] by unfold mO; rw [eB, hKK], eB]
    refine br_intro (fun hc => ?_) (fun hc => ?_)
    · have hpos : 0 < (K.filter (badF xs ys zs)).length := by simp at hc; omega
      have : (K.filter (badF xs ys zs)).isEmpty = false := by cases hf : K.filter (badF xs ys zs) with
        | nil => rw [hf] at hpos; simp at hpos
        | cons _ _ => rfl
      rw [this]
      exact ⟨kh33, _, _, _, _, _, _, rfl, Own.nil _ _ _, own23'.mono (by have := kk7.size; omega)⟩
    · have h0 : k24 = 0 := by simp at hc; omega
      have hnil : K.filter (badF xs ys zs) = [] := List.eq_nil_of_length_eq_zero (by omega)
      rw [hnil]
      exact ⟨kh33, _, _, _, _, _, _, rfl, own20'.mono (by have := kk7.size; omega), Own.nil _ _ _⟩
  · obtain ⟨K3, hK3, hm3, hless⟩ := w2 (by simpa using hb)
    generalize r.1 = key at *
    refine (past_spec (su.keep kh33) q1).mono ?_
    rintro v _ ⟨rfl, a38, k39, k40, rfl, p1, s38⟩
    refine ⟨_, _, _, rfl, ?_⟩
    refine (past_spec (sv.keep kh33) q2).mono ?_
    rintro v _ ⟨rfl, a43, k44, k45, rfl, p2, s43⟩
    refine ⟨_, _, _, rfl, ?_⟩
    refine (past_spec (sw.keep kh33) q3).mono ?_
    rintro v h47 ⟨e47, a48, k49, k50, rfl, p3, s48⟩
    subst e47
    refine ⟨_, _, _, rfl, ?_⟩
    have s38 := s38 h su
    have s43 := s43 h sv
    have s48 := s48 h sw
    have n1' := s38.1
    have n2' := s43.1
    have n3' := s48.1
    have n1 := su.1
    have n2 := sv.1
    have n3 := sw.1
    -- the maps stay
    have map1 : ∀ {h' : Heap}, Keep g7.size g7 h' → MapAt M49 h' h.size (putAll xs []) := fun k => m1'.keep k
    have map4 : ∀ {h' : Heap}, Keep g7.size g7 h' → MapAt M49 h' g1.size (putAll ys []) := fun k => m4'.keep k
    have map7 : ∀ {h' : Heap}, Keep g7.size g7 h' → MapAt M49 h' g4.size (putAll zs []) := fun k => m7.keep k
    refine ⟨_, _, mlook (map4 hk33) r1, ?_⟩
    refine svc_store_new (v := .agg _) sz54 rfl (one_sb _ _) ?_
    generalize hh54 : h47.push (Obj.cells (Value.agg (Array.mk [.string (entL ys key).1, .bool (entL ys key).2])).cells 54) = h54
    have k54 : Keep h47.size h47 h54 := by rw [← hh54]; exact Keep.push _ _ _ (Nat.le_refl _)
    have v54 : h54[h47.size]? = some (.cells #[.string (entL ys key).1, .bool (entL ys key).2] 54 (0, 0)) := by rw [← hh54]; exact push_at _ _
    have own20'' := own20'.upd (k54.upd fun _ => False) (fun _ _ h => h)
    have own23'' := own23'.upd (k54.upd fun _ => False) (fun _ _ h => h)
    have hk54 := hk33.trans (k54.mono hk33.size)
    have no20 : ∀ i, blk a20 i → g7.size ≤ i ∧ i < h47.size := fun i hi => own20'.block i hi
    have no23 : ∀ i, blk a23 i → g7.size ≤ i ∧ i < h47.size := fun i hi => own23'.block i hi
    refine ⟨fun a k c h' => Own PairE 38 g7.size h' a20 k21 k22 (K1.flatMap (outF xs ys zs)) ∧ Own StrE 9 g7.size h' a k c ((K1 ++ [key]).filter (badF xs ys zs)) ∧ (∀ i, blk a20 i → ¬ blk a i) ∧
      Keep g7.size g7 h' ∧ h'[h47.size]? = some (.cells #[.string (pickF xs ys zs key).1, .bool (pickF xs ys zs key).2] 54 (0, 0)) ∧ ¬ blk a h47.size, ?_, ?_⟩
    · refine ⟨_, _, mlook (map4 hk54) r1, _, _, mlook (map1 hk54) r0, _, reads_eqE (entL ys key) (entL xs key) _ _ _, ?_⟩
      refine br_intro (fun hl => ?_) (fun hl => ?_)
      · refine ⟨_, _, mlook (map7 hk54) r2, ?_⟩
        refine svc_store_own (v := .agg _) sz54 v54 rfl (one_sb _ _) fun h64 s64 v64 o64 => ?_
        have u64 := upd_of_one s64 o64
        refine ⟨own20''.upd u64 fun i hi e => ?_, ?_, dis, hk54.trans (u64.keep hk54.size fun i e => ?_), ?_, fun hb => ?_⟩
        · have := no20 i hi; omega
        · have hbad : badF xs ys zs key = false := by unfold badF; rw [hl]; rfl
          rw [List.filter_append, List.filter_cons_of_neg (by rw [hbad]; simp), List.filter_nil, List.append_nil]
          exact own23''.upd u64 fun i hi e => by have := no23 i hi; omega
        · have := hk33.size; omega
        · have : pickF xs ys zs key = entL zs key := by unfold pickF; rw [if_pos hl]
          rw [this]; exact v64
        · have := no23 _ hb; omega
      · have pick : pickF xs ys zs key = entL ys key := by unfold pickF; rw [if_neg (by rw [hl]; simp)]
        refine ⟨_, _, mlook (map7 hk54) r2, _, _, mlook (map1 hk54) r0, _, reads_eqE (entL zs key) (entL xs key) _ _ _, _, _, fun _ => mlook (map4 hk54) r1, _, _, fun _ => mlook (map7 hk54) r2, _,
          fun _ => reads_eqE (entL ys key) (entL zs key) _ _ _, ?_⟩
        refine br_intro (fun hg => ?_) (fun hg => ?_)
        · have hbad : badF xs ys zs key = false := by unfold badF; rw [hg]; simp
          refine ⟨own20'', ?_, dis, hk54, by rw [pick]; exact v54, fun hb => by have := no23 _ hb; omega⟩
          rw [List.filter_append, List.filter_cons_of_neg (by rw [hbad]; simp), List.filter_nil, List.append_nil]
          exact own23''
        · have hbad : badF xs ys zs key = true := by unfold badF; rw [hl, hg]; rfl
          refine svc_append1 (x := key) app29 own23'' hk54.size (bs29 _) (by omega) fun a' c' h' o' u' b' => ?_
          have hlt20 : ∀ i, blk a20 i → ¬ blk a23 i := dis
          refine ⟨own20''.upd u' fun i hi hb => dis i hi hb, ?_, fun i hi hb => ?_, hk54.trans (u'.keep hk54.size fun i hi => (no23 i hi).1), ?_, fun hb => ?_⟩
          · rw [List.filter_append, List.filter_cons_of_pos hbad, List.filter_nil]; exact o'
          · rcases b' i hb with hb | hb
            · exact dis i hi hb
            · have := (no20 i hi).2; have := k54.size; omega
          · rw [pick]; exact u'.at v54 (fun hb => by have := no23 _ hb; omega)
          · rcases b' _ hb with hb | hb
            · have := no23 _ hb; omega
            · have := at_lt v54; omega
    · rintro a85 k86 k87 h88 ⟨c20, c85, cdis, ck, cv, cb⟩
      have lB := c85.1
      have lO := c20.1
      have fB : ((K1 ++ [key]).filter (badF xs ys zs)).length ≤ (K1 ++ [key]).length := List.length_filter_le _ _
      have step : ∀ (a : Option Addr) (n c : Nat) (h' : Heap), Own PairE 38 g7.size h' a n c ((K1 ++ [key]).flatMap (outF xs ys zs)) → Own StrE 9 g7.size h' a85 k86 k87 ((K1 ++ [key]).filter (badF xs ys zs)) →
          (∀ i, blk a i → ¬ blk a85 i) → Keep g7.size g7 h' →
          (∃ us vs ws K1 K2, Sl PairE h a38 k39 us ∧ k39 ≤ k40 ∧ Sl PairE h a43 k44 vs ∧ k44 ≤ k45 ∧ Sl PairE h a48 k49 ws ∧ k49 ≤ k50 ∧
            Srt (ks us) ∧ Srt (ks vs) ∧ Srt (ks ws) ∧ K = K1 ++ K2 ∧ (∀ q, q ∈ K2 ↔ q ∈ ks us ∨ q ∈ ks vs ∨ q ∈ ks ws) ∧ Keep g7.size g7 h' ∧
            Own PairE 38 g7.size h' a n c (K1.flatMap (outF xs ys zs)) ∧ Own StrE 9 g7.size h' a85 k86 k87 (K1.filter (badF xs ys zs)) ∧ (∀ i, blk a i → ¬ blk a85 i)) ∧
          k39 + k44 + k49 < k12 + k15 + k18 := by
        intro a n c h' o1 o2 o3 o4
        exact ⟨⟨_, _, _, K1 ++ [key], K3, s38, p1, s43, p2, s48, p3, pst_srt tu, pst_srt tv, pst_srt tw, by rw [hK, hK3]; simp, hm3, o4, o1, o2, o3⟩, by omega⟩
      refine ⟨_, reads_load sc4 (by rw [Addr.add_row, cell_at cv]; rfl), ?_⟩
      refine br_intro (fun hy => ?_) (fun hy => ?_)
      · refine ⟨_, reads_load sc9 (by rw [cell_at cv]; rfl), ?_⟩
        refine svc_append1 (x := (key, (pickF xs ys zs key).1)) app22 c20 ck.size (bs22 _ _) (by omega) fun a' c' h' o' u' b' => ?_
        have no85 : ∀ i, blk a85 i → g7.size ≤ i ∧ i < h88.size := fun i hi => c85.block i hi
        refine step _ _ _ _ ?_ (c85.upd u' fun i hi hb => cdis i hb hi) (fun i hi hb => ?_) (ck.trans (u'.keep ck.size fun i hi => (no20 i hi).1))
        · rw [flatMap_snoc]
          have : outF xs ys zs key = [(key, (pickF xs ys zs key).1)] := by unfold outF; rw [if_pos hy]
          rw [this]; exact o'
        · rcases b' i hi with h1 | h1
          · exact cdis i h1 hb
          · have := (no85 i hb).2; omega
      · refine step _ _ _ _ ?_ c85 cdis ck
        rw [flatMap_snoc]
        have : outF xs ys zs key = [] := by unfold outF; rw [if_neg (by rw [hy]; simp)]
        rw [this, List.append_nil]; exact c20
end Go.Proofs.Ytepnckpaknabpaa
