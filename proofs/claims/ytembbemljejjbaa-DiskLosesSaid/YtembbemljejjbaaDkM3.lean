/-
  DiskRenames, walked: whatever pages, the law returns true. Conditions: none.
-/
import Derived.Test.YtembbemljejjbaaDkL
import Derived.Test.YtembbemljejjbaaDkB2
import Derived.Test.YtembbemljejjbaaDkC4
import Derived.Test.YtembbemljejjbaaVcT
import Derived.Test.YtembbemljejjbaaG7
set_option linter.unusedVariables false
set_option linter.unusedSimpArgs false
set_option maxRecDepth 100000
namespace Go.Proofs.Ytembbemljejjbaa
open Go Go.Vc Go.Proofs Go.Dk

theorem scBs : scT Try.prog 22 = true := by kernel_rfl
theorem St.rename {h0 h : Heap} {d : Nat} {x : D} (hs : St h0 d x h) {s t : Str} (hw : x.waits.length ≤ 1073741824) :
    HC Try.prog 26 #[.pointer (some ⟨d, 0, none⟩), .string s, .string t] h fun v h' => St h0 d (Dk.rename x s t).2 h' ∧ v = .int .i64 (Dk.rename x s t).1 := by
  obtain ⟨O, h1, h2, h3⟩ := hs
  exact (rename_spec h1 hw).mono fun v h' ⟨O', a, b, c, e⟩ => ⟨St.step h1 h2 h3 ⟨O', a, b, c⟩, e⟩

/-- slices of bytes, read as a list of texts. -/
abbrev Txt := (Option Addr × Nat × Nat) × Str
def Args (h : Heap) (A : Option Addr) (n : Nat) (l : List Txt) : Prop :=
  Sl SliceE h A n (l.map (·.1)) ∧ ∀ p ∈ l, Sl ByteE h p.1.1 p.1.2.1 (bytesL p.2)
theorem args_of {w : World} {A : Option Addr} {n : Nat} {xs : List (Option Addr × Nat × Nat)} (hs : Sl SliceE w.heap A n xs) (hg : ∀ x ∈ xs, SlG ByteE (fun _ _ => True) w x) : ∃ l, Args w.heap A n l := by
  have key : ∀ xs : List (Option Addr × Nat × Nat), (∀ x ∈ xs, SlG ByteE (fun _ _ => True) w x) → ∃ l : List Txt, l.map (·.1) = xs ∧ ∀ p ∈ l, Sl ByteE w.heap p.1.1 p.1.2.1 (bytesL p.2) := fun xs => by
    induction xs with
    | nil => exact fun _ => ⟨[], rfl, by simp⟩
    | cons x xs ih =>
      intro hg
      obtain ⟨l, e, hl⟩ := ih fun y hy => hg y (List.mem_cons_of_mem _ hy)
      obtain ⟨bs, hb, _⟩ := hg x List.mem_cons_self
      refine ⟨(x, ⟨bs.toArray⟩) :: l, by rw [List.map_cons, e], fun p hp => ?_⟩
      rcases List.mem_cons.1 hp with rfl | hp
      · exact hb
      · exact hl p hp
  obtain ⟨l, e, hl⟩ := key xs hg
  exact ⟨l, by rw [e]; exact hs, hl⟩
theorem Args.len {h : Heap} {A : Option Addr} {n : Nat} {l : List Txt} (ha : Args h A n l) : l.length = n := by have := ha.1.1; simpa using this
theorem Args.rd {h h' : Heap} {A : Option Addr} {n : Nat} {l : List Txt} (ha : Args h A n l) (k : Keep h.size h h') {i : Nat} {s : Option Addr × Nat × Nat} {b : Str} (hi : l[i]? = some (s, b)) :
    ∃ p, A = some p ∧ Reads Try.prog (Instr.loadAt 22 (.pointer (some (p.add (i * 1))))) h' (.slice s.1 s.2.1 s.2.2) ∧ Sl ByteE h s.1 s.2.1 (bytesL b) ∧ s.2.1 = b.size := by
  have hm : (l.map (·.1))[i]? = some s := by rw [List.getElem?_map, hi]; rfl
  obtain ⟨p, hA, hp⟩ := (ha.1.keep k).get hm
  have hb := ha.2 _ (List.mem_of_getElem? hi)
  refine ⟨p, hA, reads_load scBs (hp 0 _ rfl), hb, ?_⟩
  have := hb.1
  simpa [bytesL] using this.symm
def pads (l : List Txt) : List Str := l.map fun p => pad p.2
theorem pads_len (l : List Txt) : (pads l).length = l.length := by simp [pads]
theorem pads_succ {l : List Txt} {i : Nat} {p : Txt} (h : l[i]? = some p) : pads (l.take (i + 1)) = pads (l.take i) ++ [pad p.2] := by
  obtain ⟨hk, he⟩ := List.getElem?_eq_some_iff.1 h
  unfold pads
  rw [List.take_succ_eq_append_getElem hk, he, List.map_append]; rfl
theorem small_succ {l : List Txt} {i : Nat} {p : Txt} (h : l[i]? = some p) (hp : p.2.size ≤ 512) (hs : ∀ q ∈ l.take i, q.2.size ≤ 512) : ∀ q ∈ l.take (i + 1), q.2.size ≤ 512 := fun q hq => by
  obtain ⟨hk, he⟩ := List.getElem?_eq_some_iff.1 h
  rw [List.take_succ_eq_append_getElem hk, he] at hq
  rcases List.mem_append.1 hq with hq | hq
  · exact hs q hq
  · simp at hq; rw [hq]; exact hp
/-- the first bytes of a page that was read. -/
theorem sl_page {h : Heap} {b : Nat} {s : Str} {T : TypeId} (q : h[b]? = some (.cells (((bytesL (pad s)).map fun b => Value.int .u8 (b.toNat : Nat))).toArray T (0, 0))) : Sl ByteE h (some ⟨b, 0, none⟩) s.size (bytesL s) := by
  refine ⟨by show s.data.toList.length = _; rw [Array.length_toList]; rfl, .inr ⟨_, rfl, fun i x hx j v hv => ?_⟩⟩
  rw [Addr.add_row, Nat.zero_add, cell_at q]
  have hx' : (bytesL (pad s))[i]? = some x := by
    have e1 : bytesL (pad s) = bytesL s ++ List.replicate (512 - s.size) 0 := by simp [bytesL, pad]
    rw [e1, List.getElem?_append_left (List.getElem?_eq_some_iff.1 hx).1]; exact hx
  match j, hv with
  | 0, hv =>
    simp [ByteE] at hv
    subst hv
    have e3 : i * ByteE.sz + 0 = i := by show i * 1 + 0 = i; omega
    rw [e3]
    simp [hx']
  | j + 1, hv => simp [ByteE] at hv

set_option maxHeartbeats 1000000 in
theorem renames_spec {h : Heap} {A0 A1 : Option Addr} {n0 c0 n1 c1 : Nat} {n keep : Int} {old now : List Txt} (ha0 : Args h A0 n0 old) (ha1 : Args h A1 n1 now) (hn : n ≤ 9223372036854775807) (hk : 0 ≤ keep ∧ keep < 18446744073709551616) :
    HC Try.prog 7 #[.slice A0 n0 c0, .slice A1 n1 c1, .int .i64 n, .int .u64 keep] h fun v h' => Keep h.size h h' ∧ v = .bool true := by
  have l0 := ha0.len
  have l1 := ha1.len
  refine HC_of_vc (args := [.slice A0 n0 c0, .slice A1 n1 c1, .int .i64 n, .int .u64 keep]) (base := 127) (cuts := [26, 28, 33]) (bigs := []) hm Try.func7 ?_
  rw [vcRenames]
  refine (alive_spec h).mono ?_
  rintro v h1 ⟨k1, rfl⟩
  refine ⟨_, rfl, br_intro (fun e => by cases e) fun _ => br_intro (fun _ => ⟨k1, rfl⟩) fun e1 => ?_⟩
  have e1 : ((n0 ≤ 8 ∧ n1 ≤ 8) ∧ ¬ n0 = 0) ∧ ¬ n1 = 0 := by simp at e1; omega
  refine (St.new k1 40).mono ?_
  rintro v h4 ⟨d, rfl, st4⟩
  refine ⟨_, rfl, fun _ n9 h10 => ∃ (i : Nat) (x : D), n9 = i ∧ i ≤ n0 ∧ St h d x h10 ∧ Ren0 (pads (old.take i)) x ∧ ∀ p ∈ old.take i, p.2.size ≤ 512, fun _ n9 _ => n0 - n9.toNat,
    ⟨0, _, rfl, Nat.zero_le _, st4, ren0_new, by simp⟩, ?_⟩
  rintro b8 n9 h10 ⟨i, x, rfl, hi, st, re, sm⟩
  have lenT : ∀ {l : List Txt} {i : Nat}, i ≤ l.length → (pads (l.take i)).length = i := fun {l i} h => by rw [pads_len, List.length_take]; omega
  refine br_intro (fun hlt => ?_) (fun hge => ?_)
  · have hlt : i < n0 := by simpa using hlt
    have hg : old[i]? = some old[i] := List.getElem?_eq_getElem (by omega)
    generalize old[i] = p at hg
    obtain ⟨s, b⟩ := p
    obtain ⟨p, hA, hr, hsl, hsz⟩ := ha0.rd st.base hg
    refine ⟨p, ⟨hA, by omega, by omega⟩, s.1, s.2.1, s.2.2, hr, br_intro (fun _ => ⟨st.base, rfl⟩) fun e2 => ?_⟩
    have e2 : b.size ≤ 512 := by have : ¬ (512 : Int) < s.2.1 := by simpa using e2
                                 omega
    have hl := lenT (l := old) (i := i) (by omega)
    obtain ⟨w1, w2⟩ := re.write (by omega) e2
    rw [hl] at w1 w2
    refine (st.writeIn (s := ef) (i := (i : Int)) hsl (by rw [re.len]; omega)).mono ?_
    rintro v h16 ⟨st16, rfl⟩
    rw [wrap_i64 (by omega) (by omega)]
    exact ⟨_, rfl, ⟨i + 1, _, rfl, hlt, st16, by rw [pads_succ hg]; exact w2, small_succ hg e2 sm⟩, by dsimp only; omega⟩
  have hi' : i = n0 := by have : ¬ (i : Int) < n0 := by simpa using hge
                          omega
  subst hi'
  have et0 : old.take i = old := by rw [← l0, List.take_length]
  rw [et0] at re sm
  have hP : pads old ≠ [] := fun e => by have := pads_len old; rw [e] at this; simp at this; omega
  obtain ⟨s1, s2⟩ := re.sync hP n keep hn hk
  have lP := pads_len old
  refine (st.sync (s := ef) (by rw [re.len]; omega)).mono ?_
  rintro v h19 ⟨st19, rfl⟩
  refine ⟨_, rfl, (st19.arm hn hk).mono ?_⟩
  rintro v h22 ⟨st22, rfl⟩
  refine ⟨rfl, fun _ e n27 h28 => ∃ (j : Nat) (y : D), n27 = j ∧ j ≤ n1 ∧ St h d y h28 ∧ ((e = 0 ∧ RenT (pads old) (pads (now.take j)) y) ∨ (e = 8 ∧ RenB (pads old) y)) ∧ ∀ p ∈ now.take j, p.2.size ≤ 512,
    fun _ _ n27 _ => n1 - n27.toNat, ⟨0, _, rfl, Nat.zero_le _, st22, .inl ⟨rfl, s2⟩, by simp⟩, ?_⟩
  clear st st19 st22 s1 s2 re
  rintro b25 e n27 h28 ⟨j, y, rfl, hj, st, hy, sm1⟩
  refine br_intro (fun hlt => ?_) (fun hge => ?_)
  · have hlt : j < n1 := by simpa using hlt
    have hg : now[j]? = some now[j] := List.getElem?_eq_getElem (by omega)
    generalize now[j] = p at hg
    obtain ⟨s, b⟩ := p
    obtain ⟨p, hA, hr, hsl, hsz⟩ := ha1.rd st.base hg
    refine ⟨p, ⟨hA, by omega, by omega⟩, s.1, s.2.1, s.2.2, hr, br_intro (fun _ => ⟨st.base, rfl⟩) fun e2 => ?_⟩
    have e2 : b.size ≤ 512 := by have : ¬ (512 : Int) < s.2.1 := by simpa using e2
                                 omega
    have hl := lenT (l := now) (i := j) (by omega)
    rw [wrap_i64 (by omega) (by omega)]
    refine br_intro (fun e3 => ?_) (fun e3 => ?_)
    · have e3 : e = 0 := by simpa using e3
      rcases hy with ⟨_, hy⟩ | ⟨e4, _⟩
      · have w := hy.write (by omega) (by omega) e2
        rw [hl] at w
        refine (st.writeIn (s := et) (i := (j : Int)) hsl (by rw [hy.len]; omega)).mono ?_
        rintro v h34 ⟨st34, rfl⟩
        refine ⟨_, rfl, ⟨j + 1, _, rfl, hlt, st34, ?_, small_succ hg e2 sm1⟩, by dsimp only; omega⟩
        rw [pads_succ hg]; exact w
      · omega
    · have e3 : e ≠ 0 := by simpa using e3
      exact ⟨⟨j + 1, y, rfl, hlt, st, .inr (hy.resolve_left fun h => e3 h.1), small_succ hg e2 sm1⟩, by dsimp only; omega⟩
  have hj' : j = n1 := by have : ¬ (j : Int) < n1 := by simpa using hge
                          omega
  subst hj'
  have et1 : now.take j = now := by rw [← l1, List.take_length]
  rw [et1] at hy sm1
  have hQ : pads now ≠ [] := fun e => by have := pads_len now; rw [e] at this; simp at this; omega
  have lQ := pads_len now
  refine ⟨fun e h41 => ∃ y, St h d y h41 ∧ ((e = 0 ∧ RenS (pads old) (pads now) y) ∨ (e = 8 ∧ RenB (pads old) y)), br_intro (fun e3 => ?_) (fun e3 => ?_), ?_⟩
  · have e3 : e = 0 := by simpa using e3
    rcases hy with ⟨_, hy⟩ | ⟨e4, _⟩
    · refine (st.sync (s := et) (by rw [hy.len]; omega)).mono ?_
      rintro v h38 ⟨st38, rfl⟩
      exact ⟨_, rfl, _, st38, hy.sync hQ⟩
    · omega
  · have e3 : e ≠ 0 := by simpa using e3
    exact ⟨y, st, .inr (hy.resolve_left fun h => e3 h.1)⟩
  clear st hy
  rintro e h41 ⟨y, st, hy⟩
  refine ⟨fun e h47 => ∃ y, St h d y h47 ∧ ((e = 0 ∧ RenD (pads now) y) ∨ (e = 8 ∧ RenB (pads old) y)), br_intro (fun e3 => ?_) (fun e3 => ?_), ?_⟩
  · have e3 : e = 0 := by simpa using e3
    rcases hy with ⟨_, hy⟩ | ⟨e4, _⟩
    · refine (st.rename (s := et) (t := ef) (by rw [hy.waits]; exact Nat.zero_le _)).mono ?_
      rintro v h38 ⟨st38, rfl⟩
      exact ⟨_, rfl, _, st38, hy.rename⟩
    · omega
  · have e3 : e ≠ 0 := by simpa using e3
    exact ⟨y, st, .inr (hy.resolve_left fun h => e3 h.1)⟩
  clear st hy
  rintro e h47 ⟨y, st, hy⟩
  refine (st.off hk (by rcases hy with ⟨_, hy⟩ | ⟨_, hy⟩
                        · rw [hy.waits]; exact Nat.zero_le _
                        · rw [hy.w0]; exact Nat.zero_le _)).mono ?_
  rintro v h49 ⟨st49, rfl⟩
  refine ⟨rfl, st49.on.mono ?_⟩
  rintro v h51 ⟨st51, rfl⟩
  refine ⟨rfl, fun a k c h56 => ∃ x l, St h d x h56 ∧ Fin (pads l) x ∧ Args h a k l ∧ k ≤ 8 ∧ ∀ p ∈ l, p.2.size ≤ 512, br_intro (fun e3 => ?_) (fun e3 => ?_), ?_⟩
  · have e3 : e ≠ 0 := by simpa using e3
    rcases hy with ⟨e4, _⟩ | ⟨_, hy⟩
    · exact absurd e4 e3
    · exact ⟨_, old, st51, hy.fin keep, ha0, by omega, sm⟩
  · have e3 : e = 0 := by simpa using e3
    rcases hy with ⟨_, hy⟩ | ⟨e4, _⟩
    · exact ⟨_, now, st51, hy.fin keep, ha1, by omega, sm1⟩
    · omega
  clear st st49 st51 hy
  rintro a k c h56 ⟨x, l, st, fi, ha, hk8, sml⟩
  have hlk := ha.len
  refine (st.count ef).mono ?_
  rintro v h58 ⟨rfl, rfl⟩
  rw [fi.count, pads_len, hlk]
  refine ⟨_, rfl, br_intro (fun e3 => by simp at e3) (fun _ => ?_)⟩
  refine ⟨fun _ n63 h64 => ∃ i : Nat, n63 = i ∧ i ≤ k ∧ St h d x h64, fun _ n63 _ => k - n63.toNat, ⟨0, rfl, Nat.zero_le _, st⟩, ?_⟩
  clear st
  rintro b62 n63 h64 ⟨i, rfl, hi, st⟩
  refine br_intro (fun hlt => ?_) (fun hge => ⟨st.base, rfl⟩)
  have hlt : i < k := by simpa using hlt
  have hg : l[i]? = some l[i] := List.getElem?_eq_getElem (by omega)
  generalize l[i] = p at hg
  obtain ⟨s, b⟩ := p
  have hb5 : b.size ≤ 512 := sml _ (List.mem_of_getElem? hg)
  obtain ⟨p, hA, hr, hsl, hsz⟩ := ha.rd st.base hg
  refine ⟨p, ⟨hA, by omega, by omega⟩, s.1, s.2.1, s.2.2, hr, (st.read ef i).mono ?_⟩
  have hrd : Dk.read x ef i = (pad b, 0) := fi.read (by unfold pads; rw [List.getElem?_map, hg]; rfl)
  rintro v h70 ⟨st70, k70, bb, m, rfl, hm1, hb1, hc1⟩
  rw [hrd] at hm1 hc1 ⊢
  have ps : (pad b).size = 512 := pad_size hb5
  obtain rfl : m = 512 := hm1.trans ps
  have q1 := hc1 (by decide)
  have kk : Keep h.size h h70 := st70.base
  have sb := sl_page q1
  rw [← hsz] at sb
  refine ⟨some ⟨bb, 0, none⟩, 512, 512, 0, rfl, fun _ => ⟨by omega, by omega, by omega⟩, b, fun _ => reads_string undBs undB undS sb, b, fun _ => reads_string undBs undB undS (hsl.keep kk), br_intro (fun e => ?_) fun _ => ?_⟩
  · simp at e
  · rw [wrap_i64 (by omega) (by omega)]
    exact ⟨⟨i + 1, rfl, hlt, st70⟩, by dsimp only; omega⟩
end Go.Proofs.Ytembbemljejjbaa
