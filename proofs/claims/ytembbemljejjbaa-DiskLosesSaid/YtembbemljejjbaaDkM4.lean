/-
  DiskLoses, walked: whatever pages, the law returns true. Conditions: none.
-/
import Derived.Test.YtembbemljejjbaaDkF
import Derived.Test.YtembbemljejjbaaDkM3
import Derived.Test.YtembbemljejjbaaDkC5
import Derived.Test.YtembbemljejjbaaDkS
import Derived.Test.YtembbemljejjbaaVcV
import Derived.Test.YtembbemljejjbaaGL
set_option linter.unusedVariables false
set_option linter.unusedSimpArgs false
set_option maxRecDepth 100000
namespace Go.Proofs.Ytembbemljejjbaa
open Go Go.Vc Go.Proofs Go.Dk

abbrev Row := Option Addr × Nat × Nat
def rowV (r : Row) : Value := .slice r.1 r.2.1 r.2.2
def rowsC (S : Nat → Row) : List Value := (List.range 6).map fun k => rowV (S k)
theorem z_rows : (zc Try.prog 38) = (rowsC fun _ => (none, 0, 0)).toArray := by kernel_rfl
theorem rowsC_len (S : Nat → Row) : (rowsC S).length = 6 := by simp [rowsC]
theorem rowsC_get (S : Nat → Row) {k : Nat} (hk : k < 6) : (rowsC S)[k]? = some (rowV (S k)) := by simp [rowsC, List.getElem?_range hk]
def setR (S : Nat → Row) (k : Nat) (r : Row) : Nat → Row := fun j => if j = k then r else S j
theorem rowsC_set (S : Nat → Row) (k : Nat) (r : Row) : (rowsC S).set k (rowV r) = rowsC (setR S k r) := by
  apply List.ext_getElem?
  intro j
  rw [List.getElem?_set]
  by_cases hj : j < 6
  · rw [rowsC_get _ hj, rowsC_get _ hj]
    by_cases e : k = j
    · subst e; rw [if_pos rfl, rowsC_len, if_pos hj]; simp [setR]
    · rw [if_neg e]; simp [setR, Ne.symm e]
  · rw [List.getElem?_eq_none (l := rowsC S) (by rw [rowsC_len]; omega), List.getElem?_eq_none (l := rowsC (setR S k r)) (by rw [rowsC_len]; omega), rowsC_len]
    by_cases e : k = j
    · subst e; rw [if_pos rfl, if_neg hj]
    · rw [if_neg e]
/-- six rows of texts, in a box. -/
structure Rows (h : Heap) (B0 B : Nat) (S : Nat → Row) (L : Nat → List Str) : Prop where
  box : h[B]? = some (.cells (rowsC S).toArray 38 (0, 0))
  hB : B0 ≤ B
  own : ∀ k, k < 6 → OwnO StrE 9 B0 h (S k).1 (S k).2.1 (S k).2.2 (L k)
  ne : ∀ k, k < 6 → ∀ q, blk (S k).1 q → q ≠ B
  dis : ∀ j k, j < 6 → k < 6 → ∀ q, blk (S j).1 q → blk (S k).1 q → j = k
/-- their blocks. -/
def RowF (B : Nat) (S : Nat → Row) (q : Nat) : Prop := q = B ∨ ∃ k, k < 6 ∧ blk (S k).1 q
section
variable {h h' h1 h2 h0 : Heap} {B0 B d : Nat} {S : Nat → Row} {L : Nat → List Str} {x : D}
theorem Rows.upd {T : Nat → Prop} (hr : Rows h B0 B S L) (u : Upd T h h') (hT : ∀ q, RowF B S q → ¬ T q) : Rows h' B0 B S L :=
  ⟨u.at hr.box (hT B (.inl rfl)), hr.hB, fun k hk => (hr.own k hk).upd u fun q hq => hT q (.inr ⟨k, hk, hq⟩), hr.ne, hr.dis⟩
theorem Rows.keep (hr : Rows h B0 B S L) (k : Keep h.size h h') : Rows h' B0 B S L := hr.upd (k.upd fun _ => False) fun _ _ h => h
theorem Rows.lt (hr : Rows h B0 B S L) {q : Nat} (hq : RowF B S q) : B0 ≤ q ∧ q < h.size := by
  rcases hq with rfl | ⟨k, hk, hq⟩
  · exact ⟨hr.hB, at_lt hr.box⟩
  · exact (hr.own k hk).block q hq
theorem Rows.rd (hr : Rows h B0 B S L) {k : Nat} (hk : k < 6) : Reads Try.prog (Instr.loadAt 37 (.pointer (some ((⟨B, 0, none⟩ : Addr).add (k * 1))))) h (.slice (S k).1 (S k).2.1 (S k).2.2) := by
  rw [Nat.mul_one]
  exact reads_load scSs (cell_cells hr.box (by rw [List.getElem?_toArray]; exact rowsC_get S hk))
/-- one row is another one. -/
theorem Rows.put (hr : Rows h B0 B S L) {k : Nat} (hk : k < 6) {r : Row} {l : List Str} (u : Upd (blk (S k).1) h h1) (ho : OwnO StrE 9 B0 h1 r.1 r.2.1 r.2.2 l) (hb : ∀ q, blk r.1 q → blk (S k).1 q ∨ h.size ≤ q)
    (u2 : Upd (fun q => q = B) h1 h2) (box : h2[B]? = some (.cells ((rowsC S).set k (rowV r)).toArray 38 (0, 0))) : Rows h2 B0 B (setR S k r) (fun j => if j = k then l else L j) := by
  have hlt := at_lt hr.box
  have nb : ∀ q, blk r.1 q → q ≠ B := fun q hq e => by
    rcases hb q hq with h3 | h3
    · exact hr.ne k hk q h3 e
    · omega
  refine ⟨by rw [← rowsC_set]; exact box, hr.hB, fun j hj => ?_, fun j hj q hq => ?_, fun i j hi hj q h3 h4 => ?_⟩
  · by_cases e : j = k
    · subst e; simp only [setR, if_true]; exact ho.upd u2 fun q hq e => nb q hq e
    · simp only [setR, if_neg e]
      exact ((hr.own j hj).upd u fun q hq h3 => e (hr.dis j k hj hk q hq h3)).upd u2 fun q hq e => hr.ne j hj q hq e
  · by_cases e : j = k
    · subst e; simp only [setR, if_true] at hq; exact nb q hq
    · simp only [setR, if_neg e] at hq; exact hr.ne j hj q hq
  · have key : ∀ i, i < 6 → i ≠ k → ∀ q, blk (S i).1 q → blk r.1 q → False := fun i hi e q h3 h4 => by
      rcases hb q h4 with h5 | h5
      · exact e (hr.dis i k hi hk q h3 h5)
      · have := (hr.own i hi).block q h3; omega
    by_cases ei : i = k
    · by_cases ej : j = k
      · rw [ei, ej]
      · subst ei; simp only [setR, if_true, if_neg ej] at h3 h4
        exact (key j hj ej q h4 h3).elim
    · by_cases ej : j = k
      · subst ej; simp only [setR, if_true, if_neg ei] at h3 h4
        exact (key i hi ei q h3 h4).elim
      · simp only [setR, if_neg ei, if_neg ej] at h3 h4
        exact hr.dis i j hi hj q h3 h4
/-- a disk, and rows beside it. -/
def LosSt (h0 : Heap) (d B : Nat) (x : D) (S : Nat → Row) (L : Nat → List Str) (h : Heap) : Prop := StF h0 (RowF B S) d x h ∧ Rows h h0.size B S L
theorem LosSt.disk {x' : D} (hs : LosSt h0 d B x S L h) (r : StF h0 (RowF B S) d x' h' ∧ Upd (fun q => ¬ RowF B S q) h h') : LosSt h0 d B x' S L h' := ⟨r.1, hs.2.upd r.2 fun q hq h => h hq⟩
theorem LosSt.keep (hs : LosSt h0 d B x S L h) (k : Keep h.size h h') : LosSt h0 d B x S L h' := ⟨hs.1.keep k, hs.2.keep k⟩
theorem LosSt.put (hs : LosSt h0 d B x S L h) {k : Nat} (hk : k < 6) {r : Row} {l : List Str} {K : Unit → Heap → Prop} (u : Upd (blk (S k).1) h h1) (ho : OwnO StrE 9 h0.size h1 r.1 r.2.1 r.2.2 l) (hb : ∀ q, blk r.1 q → blk (S k).1 q ∨ h.size ≤ q)
    (kk : ∀ h2, LosSt h0 d B x (setR S k r) (fun j => if j = k then l else L j) h2 → K () h2) : SVC Try.prog (Instr.storeAt 37 (.pointer (some ((⟨B, 0, none⟩ : Addr).add (k * 1)))) (.slice r.1 r.2.1 r.2.2)) h1 K := by
  obtain ⟨hst, hr⟩ := hs
  have b1 : h1[B]? = some (.cells (rowsC S).toArray 38 (0, 0)) := u.at hr.box fun h3 => hr.ne k hk B h3 rfl
  rw [Nat.mul_one]
  refine svc_store_box szSs b1 (by rw [List.size_toArray, rowsC_len]; exact hk) rfl (one_slice _ _ _) fun h2 s2 b2 u2 => kk h2 ?_
  have hr2 := hr.put hk u ho hb u2 (by rw [b2]; rfl)
  refine ⟨hst.own ((u.mono fun q hq => .inr ⟨k, hk, hq⟩).trans (u2.mono fun q e => .inl e)) fun q hq => ⟨?_, (hr2.lt hq).2⟩, hr2⟩
  rcases hq with rfl | ⟨j, hj, hq⟩
  · exact .inl (.inl rfl)
  · by_cases e : j = k
    · subst e; simp only [setR, if_true] at hq
      exact (hb q hq).imp (fun h3 => .inr ⟨j, hk, h3⟩) id
    · simp only [setR, if_neg e] at hq
      exact .inl (.inr ⟨j, hj, hq⟩)
end
set_option maxHeartbeats 2000000 in
theorem loses_spec {h : Heap} {A0 A1 A2 : Option Addr} {n0 c0 n1 c1 n2 c2 : Nat} {n keep : Int} {ps : List Int} {ts : List Txt} {bs : List Bool} (hps : Sl (IntE .i64) h A0 n0 ps) (hts : Args h A1 n1 ts) (hbs : Sl BoolE h A2 n2 bs)
    (hn : n ≤ 9223372036854775807) (hk : 0 ≤ keep ∧ keep < 18446744073709551616) :
    HC Try.prog 4 #[.slice A0 n0 c0, .slice A1 n1 c1, .slice A2 n2 c2, .int .i64 n, .int .u64 keep] h fun v h' => Keep h.size h h' ∧ v = .bool true := by
  have l0 := hps.1
  have l1 := hts.len
  have l2 := hbs.1
  refine HC_of_vc (args := [.slice A0 n0 c0, .slice A1 n1 c1, .slice A2 n2 c2, .int .i64 n, .int .u64 keep]) (base := 183) (cuts := [33, 35]) (bigs := []) hm Try.func4 ?_
  rw [vcLoses]
  refine (alive_spec h).mono ?_
  rintro v h1 ⟨k1, rfl⟩
  refine ⟨_, rfl, br_intro (fun e => by cases e) fun _ => br_intro (fun _ => ⟨k1, rfl⟩) fun e1 => ?_⟩
  have e1 : (n0 ≤ 40 ∧ n0 ≤ n1) ∧ n0 ≤ n2 := by simp at e1; omega
  refine (St.new k1 20).mono ?_
  rintro v h4 ⟨d, rfl, st4⟩
  -- six pages
  refine ⟨_, rfl, fun n8 h9 => ∃ (i : Nat) (x : D), n8 = i ∧ i ≤ 6 ∧ St h d x h9 ∧ Los0 i x, fun n8 _ => 6 - n8.toNat, ⟨0, _, rfl, Nat.zero_le _, st4, los0_new⟩, ?_⟩
  rintro n8 h9 ⟨i, x, rfl, hi, st, lo⟩
  refine br_intro (fun hlt => ?_) (fun hge => ?_)
  · have hlt : i < 6 := by have : (i : Int) < 6 := by simpa using hlt
                           omega
    obtain ⟨w1, w2⟩ := lo.write hlt
    refine (st.writeIn (s := ef) (i := (i : Int)) (b := ⟨#[]⟩) (A := none) (n := 0) (c := 0) (Sl.nil _ _) (by rw [lo.len]; omega)).mono ?_
    rintro v h11 ⟨st11, rfl⟩
    rw [wrap_i64 (by omega) (by omega)]
    exact ⟨_, rfl, ⟨i + 1, _, rfl, hlt, st11, w2⟩, by dsimp only; omega⟩
  have hi6 : i = 6 := by have : ¬ (i : Int) < 6 := by simpa using hge
                         omega
  subst hi6
  obtain ⟨la, w0⟩ := lo.sync n keep hn hk
  refine (st.sync (s := ef) (by rw [lo.len]; omega)).mono ?_
  rintro v h14 ⟨st14, rfl⟩
  refine ⟨_, rfl, (st14.arm hn hk).mono ?_⟩
  rintro v h17 ⟨st17, rfl⟩
  generalize arm (Dk.sync x ef).2 n keep = y at la w0 st17
  clear st14 st lo st4
  -- the rows
  have z17 := st17.base.size
  refine ⟨rfl, zc Try.prog 38, ⟨rfl⟩, ?_⟩
  rw [z_rows]
  have kp := keep_push h17 (Obj.cells (rowsC fun _ => ((none, 0, 0) : Row)).toArray 38 (0, 0))
  have b17 := push_at h17 (Obj.cells (rowsC fun _ => ((none, 0, 0) : Row)).toArray 38 (0, 0))
  have r17 : Rows (h17.push (Obj.cells (rowsC fun _ => ((none, 0, 0) : Row)).toArray 38 (0, 0))) h.size h17.size (fun _ => (none, 0, 0)) (fun _ => []) :=
    ⟨b17, z17, fun k hk => OwnO.nil _ _ _, fun k hk q ⟨p, e, _⟩ => (by cases e), fun j k hj hk q ⟨p, e, _⟩ => (by cases e)⟩
  have s17 : LosSt h d h17.size y (fun _ => (none, 0, 0)) (fun _ => []) (h17.push (Obj.cells (rowsC fun _ => ((none, 0, 0) : Row)).toArray 38 (0, 0))) :=
    ⟨st17.frame.own (kp.upd _) (fun q hq => (by
      rcases hq with rfl | ⟨k, hk, p, e, _⟩
      · exact ⟨.inr (Nat.le_refl _), by simp⟩
      · cases e)), r17⟩
  generalize (h17.push (Obj.cells (rowsC fun _ => ((none, 0, 0) : Row)).toArray 38 (0, 0))) = H at s17
  generalize hB : h17.size = B at s17
  clear r17 b17 kp st17 z17
  refine ⟨fun n21 h22 => ∃ (i : Nat) (S : Nat → Row), n21 = i ∧ i ≤ 6 ∧ LosSt h d B y S (fun k => if k < i then [zp] else []) h22, fun n21 _ => 6 - n21.toNat, ⟨0, _, rfl, Nat.zero_le _, s17⟩, ?_⟩
  clear s17
  rintro n21 h22 ⟨i, S, rfl, hi, s22⟩
  have z22 := s22.1.base.size
  refine br_intro (fun hlt => ?_) (fun hge => ?_)
  · have hlt : i < 6 := by have : (i : Int) < 6 := by simpa using hlt
                           omega
    refine svc_noughts (n := 512) (by omega) fun h24 k24 e24 sl24 => ⟨_, _, _, rfl, zp, ?_, ?_⟩
    · rw [← zp_of]; exact reads_string undBs undB undS sl24
    have z24 := k24.size
    refine svc_row (B0 := h.size) (by omega) fun h30 k30 e30 o30 => ⟨_, _, _, rfl, ⟨by omega, by omega⟩, ?_⟩
    rw [Int.toNat_natCast]
    have k2230 := k24.trans (k30.mono z24)
    refine s22.put hlt (r := (some ⟨h24.size, 0, none⟩, 1, 1)) (k2230.upd _) o30.o (fun q ⟨p, e, hq⟩ => .inr (by cases e; show h22.size ≤ q; rw [← hq]; exact z24)) fun h35 s35 => ?_
    rw [wrap_i64 (by omega) (by omega)]
    have e : (fun j => if j = i then [zp] else if j < i then [zp] else []) = fun k => if k < i + 1 then [zp] else [] := by
      funext j
      by_cases h1 : j = i
      · rw [if_pos h1, if_pos (by omega)]
      · rw [if_neg h1]
        by_cases h2 : j < i
        · rw [if_pos h2, if_pos (by omega)]
        · rw [if_neg h2, if_neg (by omega)]
    rw [e] at s35
    exact ⟨⟨i + 1, _, rfl, hlt, s35⟩, by dsimp only; omega⟩
  have hi6 : i = 6 := by have : ¬ (i : Int) < 6 := by simpa using hge
                         omega
  subst hi6
  -- what happens
  refine ⟨fun _ h110 => ∃ (x : D) (S : Nat → Row) (L : Nat → List Str), LosSt h d B x S L h110 ∧ ((LosA L x ∧ x.waits.length ≤ 40) ∨ LosB L x) ∧ ∀ k, k < 6 → (L k).length ≤ 42, ?_, ?_⟩
  · refine ⟨fun _ n40 h41 => ∃ (i : Nat) (x : D) (S : Nat → Row) (L : Nat → List Str), n40 = i ∧ i ≤ n0 ∧ LosSt h d B x S L h41 ∧ LosA L x ∧ x.waits.length ≤ i ∧ ∀ k, k < 6 → (L k).length ≤ i + 1,
      fun _ n40 _ => n0 - n40.toNat, ⟨0, y, S, fun k => if k < 6 then [zp] else [], rfl, Nat.zero_le _, s22, ?_, by rw [w0]; exact Nat.le_refl _, fun k hk => by dsimp only; rw [if_pos hk]; exact Nat.le_refl _⟩, ?_⟩
    · refine ⟨la.ok, la.down, la.six, fun p hp => ?_, la.slen, fun w hw => ?_, fun p hp => ?_⟩
      · rw [if_pos hp]; exact la.safe p hp
      · rw [w0] at hw; cases hw
      · rw [if_pos hp]; exact la.last p hp
    clear s22 la w0
    rintro b39 n40 h41 ⟨i, x, S, L, rfl, hi, s41, la, wl, ll⟩
    refine br_intro (fun hlt => ?_) (fun hge => ⟨x, S, L, s41, .inl ⟨la, by omega⟩, fun k hk => by have := ll k hk; omega⟩)
    have hlt : i < n0 := by simpa using hlt
    have kh := s41.1.base
    have hp : ps[i]? = some (ps[i]'(by omega)) := List.getElem?_eq_getElem (by omega)
    generalize ps[i]'(by omega) = pp at hp
    have ht : ts[i]? = some (ts[i]'(by omega)) := List.getElem?_eq_getElem (by omega)
    generalize ts[i]'(by omega) = tt at ht
    obtain ⟨s, b⟩ := tt
    obtain ⟨q0, hA0, hr0⟩ := reads_i (hps.keep kh) hp
    obtain ⟨q1, hA1, hr1, hsl, hsz⟩ := hts.rd kh ht
    have iA1 : A1 = some q1 ∧ (0 : Int) ≤ (i : Int) ∧ (i : Int) < (n1 : Int) := ⟨hA1, by omega, by omega⟩
    have ti : (i : Int).toNat = i := Int.toNat_natCast i
    refine ⟨q0, ⟨hA0, by omega, by omega⟩, pp, hr0, q1, fun _ => iA1, s.1, s.2.1, s.2.2, fun _ => hr1, br_intro (fun _ => ⟨s41.1.base, rfl⟩) fun e2 => ?_⟩
    have e2 : (0 ≤ pp ∧ pp ≤ 5) ∧ b.size ≤ 512 := by simp at e2; omega
    obtain ⟨p, rfl⟩ : ∃ p : Nat, pp = p := ⟨pp.toNat, by omega⟩
    have hp6 : p < 6 := by omega
    have wr := la.write hp6 e2.2
    dsimp only at wr
    refine ⟨q1, iA1, s.1, s.2.1, s.2.2, hr1, (s41.1.writeIn (s := ef) (i := (p : Int)) hsl (by omega)).mono ?_⟩
    rintro v h53 ⟨r53, rfl⟩
    have s53 := s41.disk r53
    have kh53 := s53.1.base
    have z53 := kh53.size
    have rp : ∀ h', Keep h53.size h53 h' → Reads Try.prog (Instr.loadAt 37 (.pointer (some ((⟨B, 0, none⟩ : Addr).add (p * 1))))) h' (.slice (S p).1 (S p).2.1 (S p).2.2) := fun h' k' => (s53.2.keep k').rd hp6
    have kk : ∀ {h' : Heap}, Keep h53.size h53 h' → Keep h.size h h' := fun k' => kh53.trans (k'.mono z53)
    have rt : ∀ h', Keep h53.size h53 h' → Reads Try.prog (Instr.loadAt 22 (.pointer (some (q1.add (i * 1))))) h' (.slice s.1 s.2.1 s.2.2) := fun h' k' => by
      obtain ⟨q, hq, hr, _⟩ := hts.rd (kk k') ht
      rw [hA1] at hq; cases hq; exact hr
    refine ⟨_, rfl, fun h' => Keep h53.size h53 h', Keep.refl _ _, ⟨by omega, by omega⟩, (S p).1, (S p).2.1, (S p).2.2, fun h' k' => rp h' k', q1, iA1, s.1, s.2.1, s.2.2, fun h' k' => rt h' k', b,
      fun h' k' => reads_string undBs undB undS (hsl.keep (kk k')), q1, iA1, s.1, s.2.1, s.2.2, rt h53 (Keep.refl _ _), ?_⟩
    have ew : IntKind.i64.wrap (512 - (s.2.1 : Int)) = ((512 - b.size : Nat) : Int) := by rw [wrap_i64 (by omega) (by omega)]; omega
    rw [ew]
    refine svc_noughts (by omega) fun h72 k72 e72 sl72 => ⟨_, _, _, rfl, k72, ⟨(List.replicate (512 - b.size) 0).toArray⟩, reads_string undBs undB undS sl72, ?_, ?_⟩
    · rw [page_of]; have : (b.size + (512 - b.size) : Nat) = 512 := by omega
      rw [this]; decide
    rw [pad_of]
    have z72 := k72.size
    refine svc_row (B0 := h.size) (by omega) fun h78 k78 e78 o78 => ⟨_, _, _, rfl, k72.trans (k78.mono z72), ?_⟩
    have k5378 := k72.trans (k78.mono z72)
    have s78 := s53.keep k5378
    have z78 := k5378.size
    have lp := ll p hp6
    have lS := (s78.2.own p hp6).1
    refine svc_appendO (ys := [pad b]) app_ss (s78.2.own p hp6) (by omega) o78.sl (by omega) fun a' c' h83 o83 u83 b83 => ⟨_, _, _, rfl, ⟨by omega, by omega⟩, ?_⟩
    rw [Int.toNat_natCast]
    refine s78.put hp6 (r := (a', (S p).2.1 + 1, c')) u83 o83 (fun q hq => (b83 q hq).imp id fun e => by omega) fun h88 s88 => ?_
    generalize setR S p (a', (S p).2.1 + 1, c') = S1 at s88
    have eL : (fun j => if j = p then L p ++ [pad b] else L j) = addL L p (pad b) := by
      funext j; unfold addL
      by_cases e : j = p
      · subst e; simp
      · simp [e]
    rw [eL] at s88
    have ll1 : ∀ k, k < 6 → (addL L p (pad b) k).length ≤ i + 2 := fun k hk => by
      have := ll k hk
      unfold addL
      split
      · simp; omega
      · omega
    generalize addL L p (pad b) = L1 at s88 wr ll1
    generalize hx1 : (Dk.write x ef p b).2 = x1 at s88 wr
    generalize he1 : (Dk.write x ef p b).1 = e1' at wr
    clear s78 o83 u83 b83 o78 s53 r53 s41 la rp rt
    refine ⟨fun n107 h108 => ∃ (x : D) (S : Nat → Row) (L : Nat → List Str), LosSt h d B x S L h108 ∧ ((n107 = 0 ∧ LosA L x ∧ x.waits.length ≤ i + 1) ∨ (n107 ≠ 0 ∧ LosB L x)) ∧ ∀ k, k < 6 → (L k).length ≤ i + 2, ?_, ?_⟩
    · have hb : bs[i]? = some (bs[i]'(by omega)) := List.getElem?_eq_getElem (by omega)
      generalize bs[i]'(by omega) = bb at hb
      obtain ⟨q2, hA2, hr2⟩ := reads_b (hbs.keep s88.1.base) hb
      refine ⟨q2, fun _ => ⟨hA2, by omega, by omega⟩, bb, fun _ => hr2, br_intro (fun e3 => ?_) (fun e3 => ?_)⟩
      · have e3 : e1' = 0 ∧ bb = true := by simpa using e3
        have la1 : LosA L1 x1 ∧ x1.waits.length ≤ i + 1 := by
          rcases wr with ⟨_, w2, w3⟩ | ⟨w1, _⟩
          · exact ⟨w2, by omega⟩
          · omega
        have sy := la1.1.sync
        refine (s88.1.sync (s := ef) (by omega)).mono ?_
        rintro v h93 ⟨r93, rfl⟩
        have s93 := s88.disk r93
        refine ⟨_, rfl, br_intro (fun e4 => ?_) (fun e4 => ?_)⟩
        · have e4 : (Dk.sync x1 ef).1 = 0 := by simpa using e4
          rcases sy with ⟨_, sy, sw⟩ | ⟨sy, _⟩
          · refine ⟨fun n97 h98 => ∃ (k : Nat) (S : Nat → Row), n97 = k ∧ k ≤ 6 ∧ LosSt h d B (Dk.sync x1 ef).2 S (fun j => if j < k then lastL L1 j else L1 j) h98, fun n97 _ => 6 - n97.toNat, ⟨0, S1, rfl, Nat.zero_le _, s93⟩, ?_⟩
            rintro n97 h98 ⟨k, S2, rfl, hk6, s98⟩
            refine br_intro (fun hlt3 => ?_) (fun hge3 => ?_)
            · have hlt3 : k < 6 := by have : (k : Int) < 6 := by simpa using hlt3
                                      omega
              have rd := s98.2.rd hlt3
              have ow := s98.2.own k hlt3
              rw [if_neg (Nat.lt_irrefl k)] at ow
              obtain ⟨t, ht1, ht2⟩ := la1.1.last k hlt3
              have hne : L1 k ≠ [] := fun e => by rw [e] at ht1; cases ht1
              have hpos : 0 < (S2 k).2.1 := by rw [← ow.1]; exact List.length_pos_iff.2 hne
              have hcap := ow.2.1
              have hl1 := ll1 k hlt3
              have hol := ow.1
              have ew : IntKind.i64.wrap (((S2 k).2.1 : Int) - 1) = (((S2 k).2.1 - 1 : Nat) : Int) := by rw [wrap_i64 (by omega) (by omega)]; omega
              refine ⟨⟨by omega, by omega⟩, (S2 k).1, (S2 k).2.1, (S2 k).2.2, rd, ⟨by omega, by omega⟩, (S2 k).1, (S2 k).2.1, (S2 k).2.2, rd, ?_⟩
              rw [ew, Int.toNat_natCast, Int.toNat_natCast]
              refine ⟨⟨by omega, by omega, by omega, by omega⟩, ⟨by omega, by omega⟩, ?_⟩
              have od := ow.drop (l := (S2 k).2.1 - 1) (by omega)
              refine s98.put hlt3 (r := (subA (S2 k).1 ((S2 k).2.1 - 1) (S2 k).2.2 1, (S2 k).2.1 - ((S2 k).2.1 - 1), (S2 k).2.2 - ((S2 k).2.1 - 1))) (Upd.refl _ _) od (fun q hq => .inl (blk_subA q hq)) fun h106 s106 => ?_
              rw [wrap_i64 (by omega) (by omega)]
              have e : (fun j => if j = k then (L1 k).drop ((S2 k).2.1 - 1) else if j < k then lastL L1 j else L1 j) = fun j => if j < k + 1 then lastL L1 j else L1 j := by
                funext j
                by_cases h1 : j = k
                · subst h1; rw [if_pos rfl, if_pos (by omega)]; unfold lastL; rw [hol]
                · rw [if_neg h1]
                  by_cases h2 : j < k
                  · rw [if_pos h2, if_pos (by omega)]
                  · rw [if_neg h2, if_neg (by omega)]
              rw [e] at s106
              exact ⟨⟨k + 1, _, rfl, hlt3, s106⟩, by dsimp only; omega⟩
            · have hk' : k = 6 := by have : ¬ (k : Int) < 6 := by simpa using hge3
                                     omega
              subst hk'
              refine ⟨_, S2, _, s98, .inl ⟨e4, ?_, by rw [sw]; exact Nat.zero_le _⟩, fun k hk => ?_⟩
              · refine ⟨sy.ok, sy.down, sy.six, fun p hp => ?_, sy.slen, fun w hw => ?_, fun p hp => ?_⟩
                · rw [if_pos hp]; exact sy.safe p hp
                · rw [sw] at hw; cases hw
                · rw [if_pos hp]; exact sy.last p hp
              · have := ll1 k hk
                rw [if_pos hk]
                unfold lastL
                rw [List.length_drop]; omega
          · omega
        · have e4 : (Dk.sync x1 ef).1 ≠ 0 := by simpa using e4
          rcases sy with ⟨sy, _⟩ | ⟨_, sy⟩
          · exact absurd sy e4
          · exact ⟨_, S1, L1, s93, .inr ⟨e4, sy⟩, ll1⟩
      · refine ⟨x1, S1, L1, s88, ?_, ll1⟩
        rcases wr with ⟨w1, w2, w3⟩ | ⟨w1, w2⟩
        · exact .inl ⟨w1, w2, by omega⟩
        · exact .inr ⟨by omega, w2⟩
    · clear s88 wr
      rintro n107 h108 ⟨x2, S2, L2, s108, hx2, ll2⟩
      refine br_intro (fun e3 => ?_) (fun e3 => ?_)
      · have e3 : n107 ≠ 0 := by simpa using e3
        rcases hx2 with ⟨h3, _⟩ | ⟨_, h3⟩
        · exact absurd h3 e3
        · exact ⟨x2, S2, L2, s108, .inr h3, fun k hk => by have := ll2 k hk; omega⟩
      · have e3 : n107 = 0 := by simpa using e3
        rcases hx2 with ⟨_, h3, h4⟩ | ⟨h3, _⟩
        · rw [wrap_i64 (by omega) (by omega)]
          exact ⟨⟨i + 1, x2, S2, L2, rfl, hlt, s108, h3, h4, fun k hk => by have := ll2 k hk; omega⟩, by dsimp only; omega⟩
        · exact absurd e3 h3
  clear s22 la w0
  rintro b109 h110 ⟨x, S, L, s110, hx, lb⟩
  refine (s110.1.off hk (by rcases hx with ⟨_, h3⟩ | h3
                            · omega
                            · rw [h3.w0]; exact Nat.zero_le _)).mono ?_
  rintro v h112 ⟨r112, rfl⟩
  have s112 := s110.disk r112
  refine ⟨rfl, s112.1.on.mono ?_⟩
  rintro v h114 ⟨r114, rfl⟩
  have s114 := s112.disk r114
  have hb : LosB L (Dk.off keep x) := hx.elim (fun h3 => h3.1.off keep) fun h3 => h3.off keep
  refine ⟨rfl, fun _ n118 h119 => ∃ p : Nat, n118 = p ∧ p ≤ 6 ∧ LosSt h d B (Dk.on (Dk.off keep x)) S L h119, fun _ n118 _ => 6 - n118.toNat, ⟨0, rfl, Nat.zero_le _, s114⟩, ?_⟩
  clear s114 s112 s110 r112 r114
  rintro b117 n118 h119 ⟨p, rfl, hp, s119⟩
  refine br_intro (fun hlt => ?_) (fun hge => ⟨s119.1.base, rfl⟩)
  have hp6 : p < 6 := by have : (p : Int) < 6 := by simpa using hlt
                         omega
  obtain ⟨s, hs1, hs2, hs3⟩ := hb.read hp6
  refine (s119.1.read ef p).mono ?_
  rintro v h121 ⟨k121, bb, m, rfl, hm1, hb1, hc1⟩
  rw [hs2] at hm1 hc1 ⊢
  obtain rfl : m = 512 := hm1.trans hs3
  have q1 := hc1 (by decide)
  have s121 := s119.keep k121
  have ow := s121.2.own p hp6
  have hol := ow.1
  have lbp := lb p hp6
  refine ⟨some ⟨bb, 0, none⟩, 512, 512, 0, rfl, ⟨by omega, by omega⟩, (S p).1, (S p).2.1, (S p).2.2, ?_, ?_⟩
  · rw [Int.toNat_natCast]; exact s121.2.rd hp6
  have sb : Sl ByteE h121 (some ⟨bb, 0, none⟩) 512 (bytesL s) := by
    have : s.size = (bytesL s).length := by show s.data.size = s.data.toList.length; rw [Array.length_toList]
    have e3 : 512 = (bytesL s).length := by omega
    have hh : ((bytesL s).map fun b => Value.int .u8 (b.toNat : Nat)) = (bytesL s).flatMap ByteE.enc := by
      generalize bytesL s = l
      induction l with
      | nil => rfl
      | cons a l ih => rw [List.flatMap_cons, ← ih]; rfl
    rw [hh] at q1
    rw [e3]; exact sl_bytes q1
  refine ⟨fun b n h' => h' = h121 ∧ ∃ j : Nat, n = j ∧ j ≤ (S p).2.1 ∧ (s ∈ (L p).take j → b = true), fun _ n _ => (S p).2.1 - n.toNat, ⟨rfl, 0, rfl, Nat.zero_le _, fun h => by simp at h⟩, ?_⟩
  rintro b131 n132 _ ⟨rfl, j, rfl, hj, hin⟩
  refine br_intro (fun hlt2 => ?_) (fun hge2 => ?_)
  · have hlt2 : j < (S p).2.1 := by simpa using hlt2
    have ht : (L p)[j]? = some ((L p)[j]'(by omega)) := List.getElem?_eq_getElem (by omega)
    generalize (L p)[j]'(by omega) = t at ht
    obtain ⟨q, hA, hr⟩ := reads_s ow.sl ht
    refine ⟨q, ⟨hA, by omega, by omega⟩, t, hr, s, fun _ => reads_string undBs undB undS sb, ?_⟩
    have hL := ow.sl.1
    rw [wrap_i64 (by omega) (by omega)]
    refine ⟨⟨rfl, j + 1, rfl, hlt2, fun h3 => ?_⟩, by dsimp only; omega⟩
    obtain ⟨hk1, he⟩ := List.getElem?_eq_some_iff.1 ht
    rw [List.take_succ_eq_append_getElem hk1, he] at h3
    rcases List.mem_append.1 h3 with h3 | h3
    · rw [hin h3]; rfl
    · simp at h3; rw [h3]; simp
  · have hj' : j = (S p).2.1 := by have : ¬ (j : Int) < (S p).2.1 := by simpa using hge2
                                   omega
    subst hj'
    rw [← hol, List.take_length] at hin
    have hbt := hin hs1
    subst hbt
    refine br_intro (fun e => by cases e) fun _ => ?_
    rw [wrap_i64 (by omega) (by omega)]
    exact ⟨⟨p + 1, rfl, hp6, s121⟩, by dsimp only; omega⟩
end Go.Proofs.Ytembbemljejjbaa
