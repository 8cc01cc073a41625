/-
  The disk, plainly: a file that is synced and renamed is whole behind a loss of power. Conditions: none.
-/
import Derived.Test.YtembbemljejjbaaDkC1
import Derived.Test.YtembbemljejjbaaDkC3
set_option linter.unusedSimpArgs false
set_option linter.unusedVariables false
namespace Go.Dk
open Go Go.Vc

def et : Str := ⟨#[116]⟩
theorem eft : ef ≠ et := by decide +kernel

theorem setP_end (l : List Str) (p : Str) : setP l l.length p = l ++ [p] := by
  unfold setP
  rw [show l.length + 1 - l.length = 1 by omega]
  simp
theorem keepW_ne (keep : Int) (q : Str) : ∀ (ws : List Wt) (i : Nat) (F : Fs), SrtF F → (∀ w ∈ ws, w.n ≠ q) → mGet (keepW keep i ws F) q = mGet F q
  | [], _, _, _, _ => rfl
  | w :: ws, i, F, hF, hw => by
    have h1 : mGet (app1 F w) q = mGet F q := by unfold app1; rw [get_put hF, if_neg (Ne.symm (hw w List.mem_cons_self))]
    unfold keepW
    split
    · exact (keepW_ne keep q ws (i + 1) _ (srt_put hF _ _) fun w h => hw w (List.mem_cons_of_mem _ h)).trans h1
    · exact keepW_ne keep q ws (i + 1) _ hF fun w h => hw w (List.mem_cons_of_mem _ h)
/-- what is safe of a file none of whose writes wait is there behind a loss. -/
theorem pgs_off {y : D} (ok : Ok y) (hd : y.down = false) (keep : Int) {q : Str} (hw : ∀ w ∈ y.waits, w.n ≠ q) : pgs (off keep y).now q = pgs y.safe q := by
  have e : (off keep y).now = offS keep y := by unfold off; rw [if_neg (by rw [hd]; decide)]
  rw [e]
  show pgs (List.foldl addN (keepW keep 0 y.waits y.safe) (names y.now)) q = _
  rw [pgs_addAll _ _ (srt_keepW _ _ _ _ ok.safe)]
  unfold pgs
  rw [keepW_ne keep q _ _ _ ok.safe hw]
theorem off_down {y : D} (keep : Int) : (off keep y).down = true := by
  unfold off; split
  · assumption
  · rfl
theorem off_waits {y : D} (hd : y.down = false) (keep : Int) : (off keep y).waits = [] := by unfold off; rw [if_neg (by rw [hd]; decide)]

/-- a file is being laid. -/
structure Ren0 (P : List Str) (x : D) : Prop where
  ok : Ok x
  down : x.down = false
  fuse : x.fuse = 0
  room : x.room = 40
  f : pgs x.now ef = P
  ff : P ≠ [] → (mGet x.now ef).isSome = true
  now : ∀ q, q ≠ ef → mGet x.now q = none
  safe : ∀ q, mGet x.safe q = none
  waits : ∀ w ∈ x.waits, w.n = ef
  len : x.waits.length = P.length
theorem ren0_new : Ren0 [] (new 40) := ⟨(by
    refine ⟨List.Pairwise.nil, List.Pairwise.nil, ?_, ?_, fun n => Nat.le_refl _, fun w hw => (by cases hw), fun n p hp => (by cases hp), fun n p hp => (by cases hp), (by decide), ⟨(by decide), (by decide)⟩⟩
    · show (min (max (40 : Int) 0) 4096).toNat ≤ 4096; omega
    · exact Nat.zero_le _), rfl, rfl, rfl, rfl, fun h => absurd rfl h, fun q _ => rfl, fun q => rfl, fun w hw => (by cases hw), rfl⟩
theorem tot_ft {F : Fs} (h : SrtF F) (hn : ∀ q, q ≠ ef → q ≠ et → mGet F q = none) : tot F = (pgs F ef).length + (pgs F et).length := by
  have h1 := tot_del h ef
  have h2 := tot_del (srt_del h ef) et
  have h3 : del et (del ef F) = [] := fs_ext (srt_del (srt_del h _) _) List.Pairwise.nil fun q => by
    rw [get_del, get_del]
    by_cases e1 : q = et
    · rw [if_pos e1]; rfl
    · rw [if_neg e1]
      by_cases e2 : q = ef
      · rw [if_pos e2]; rfl
      · rw [if_neg e2, hn q e2 e1]; rfl
  rw [h3, pgs_del, if_neg eft.symm] at h2
  simp [tot] at h2
  have : tot (del ef F) = (pgs F et).length := by unfold tot; omega
  omega
theorem Ren0.write {P : List Str} {x : D} (h : Ren0 P x) (hP : P.length < 8) {b : Str} (hb : b.size ≤ 512) : (Dk.write x ef P.length b).1 = 0 ∧ Ren0 (P ++ [pad b]) (Dk.write x ef P.length b).2 := by
  have t1 := tot_ft h.ok.now fun q h1 _ => h.now q h1
  have ht : pgs x.now et = [] := by unfold pgs; rw [h.now et eft.symm]; rfl
  rw [ht, h.f] at t1
  have hr := h.room
  have hlen : P.length = (pgs x.now ef).length := by rw [h.f]
  have fr : 1 ≤ free x := by unfold free; simp at t1; omega
  have w1 := write_ok (n := ef) (i := P.length) h.down h.fuse hb hlen fr
  have ok1 := ok_write (s := ef) (k := P.length) h.ok (by omega) hb fun _ => fr
  rw [w1]
  have hs : setP (pgs x.now ef) P.length (pad b) = P ++ [pad b] := by rw [h.f]; exact setP_end _ _
  refine ⟨rfl, ⟨ok1, h.down, ?_, h.room, ?_, fun _ => ?_, fun q hq => ?_, h.safe, fun w hw => ?_, ?_⟩⟩
  · show x.fuse - 1 = 0; rw [h.fuse]
  · show pgs (put ef (setP (pgs x.now ef) P.length (pad b)) x.now) ef = _
    rw [pgs_put h.ok.now, if_pos rfl, hs]
  · exact isSome_put h.ok.now _ _
  · show mGet (put ef _ x.now) q = none
    rw [get_put h.ok.now, if_neg hq]; exact h.now q hq
  · rcases List.mem_append.1 hw with hw | hw
    · exact h.waits w hw
    · simp at hw; rw [hw]
  · show (x.waits ++ [_]).length = _
    simp [h.len]

/-- the first file is there and safe; a second one is being laid. -/
structure RenT (P Q : List Str) (x : D) : Prop where
  ok : Ok x
  down : x.down = false
  room : x.room = 40
  f : pgs x.now ef = P
  sf : pgs x.safe ef = P
  ff : (mGet x.now ef).isSome = true
  t : pgs x.now et = Q
  tt : Q ≠ [] → (mGet x.now et).isSome = true
  now : ∀ q, q ≠ ef → q ≠ et → mGet x.now q = none
  waits : ∀ w ∈ x.waits, w.n = et
  len : x.waits.length = Q.length
/-- the power is off, and the first file is there. -/
structure RenB (P : List Str) (x : D) : Prop where
  ok : Ok x
  down : x.down = true
  f : pgs x.now ef = P
  w0 : x.waits = []
theorem Ren0.sync {P : List Str} {x : D} (h : Ren0 P x) (hP : P ≠ []) (n keep : Int) (hn : n ≤ 9223372036854775807) (hk : 0 ≤ keep ∧ keep < 18446744073709551616) : (Dk.sync x ef).1 = 0 ∧ RenT P [] (arm (Dk.sync x ef).2 n keep) := by
  have hs : Dk.sync x ef = (0, { act x with safe := put ef (pgs x.now ef) x.safe, waits := drop x.waits ef 0 }) := by
    unfold Dk.sync; rw [may0 h.down h.fuse (h.ff hP)]; rfl
  rw [hs]
  have hx := h.ok
  have hd0 : drop x.waits ef 0 = [] := by
    unfold drop
    refine List.filter_eq_nil_iff.2 fun w hw => ?_
    simp [h.waits w hw]
  rw [hd0]
  refine ⟨rfl, ⟨?_, h.down, h.room, h.f, ?_, h.ff hP, ?_, fun h0 => absurd rfl h0, fun q h1 _ => h.now q h1, fun w hw => (by cases hw), rfl⟩⟩
  · refine ⟨hx.now, srt_put hx.safe _ _, hx.room, hx.tot, fun m => ?_, fun w hw => (by cases hw), hx.pnow, fun m p hp => ?_, ?_, hk⟩
    · show (pgs (put ef (pgs x.now ef) x.safe) m).length ≤ (pgs x.now m).length
      rw [pgs_put hx.safe]; split
      · rename_i e; rw [e]; exact Nat.le_refl _
      · exact hx.fewer m
    · have hp : p ∈ pgs (put ef (pgs x.now ef) x.safe) m := hp
      rw [pgs_put hx.safe] at hp; split at hp
      · exact hx.pnow _ _ hp
      · exact hx.psafe _ _ hp
    · show n.toNat ≤ _; omega
  · show pgs (put ef (pgs x.now ef) x.safe) ef = P
    rw [pgs_put hx.safe, if_pos rfl, h.f]
  · show pgs x.now et = []
    unfold pgs; rw [h.now et eft.symm]; rfl
theorem RenB.of {P : List Str} {y : D} (ok : Ok y) (hd : y.down = false) (hs : pgs y.safe ef = P) (hw : ∀ w ∈ y.waits, w.n ≠ ef) (keep : Int) : RenB P (off keep y) :=
  ⟨ok_off ok keep, off_down keep, by rw [pgs_off ok hd keep hw, hs], off_waits hd keep⟩
theorem RenT.write {P Q : List Str} {x : D} (h : RenT P Q x) (hP : P.length ≤ 8) (hQ : Q.length < 8) {b : Str} (hb : b.size ≤ 512) :
    let r := Dk.write x et Q.length b; (r.1 = 0 ∧ RenT P (Q ++ [pad b]) r.2) ∨ (r.1 = 8 ∧ RenB P r.2) := by
  have t1 := tot_ft h.ok.now h.now
  rw [h.f, h.t] at t1
  have hr := h.room
  have hlen : Q.length = (pgs x.now et).length := by rw [h.t]
  have fr : 1 ≤ free x := by unfold free; omega
  have ok1 := ok_write (s := et) (k := Q.length) h.ok (by omega) hb fun _ => fr
  have hs : setP (pgs x.now et) Q.length (pad b) = Q ++ [pad b] := by rw [h.t]; exact setP_end _ _
  have hw : Dk.write x et Q.length b = (if goes x then (8, off (act x).keep { act x with now := put et (setP (pgs x.now et) Q.length (pad b)) x.now, waits := x.waits ++ [⟨et, Q.length, pad b⟩] })
      else (0, { act x with now := put et (setP (pgs x.now et) Q.length (pad b)) x.now, waits := x.waits ++ [⟨et, Q.length, pad b⟩] })) := by
    simp only [Dk.write, h.down, Bool.false_eq_true, if_false, if_neg (show ¬ 512 < b.size by omega), if_neg (show ¬ ((Q.length : Int) < 0 ∨ ((pgs x.now et).length : Int) < Q.length) by omega),
      if_neg (show ¬ ((Q.length : Int) = (pgs x.now et).length ∧ free x < 1) by omega), Int.toNat_natCast]
  have hwt : ∀ w ∈ x.waits ++ [⟨et, Q.length, pad b⟩], w.n = et := fun w hw => by
    rcases List.mem_append.1 hw with hw | hw
    · exact h.waits w hw
    · simp at hw; rw [hw]
  dsimp only
  rw [hw]
  by_cases hg : goes x = true
  · rw [if_pos hg]
    exact .inr ⟨rfl, RenB.of ok1 h.down h.sf (fun w hw => by rw [hwt w hw]; exact eft.symm) _⟩
  · rw [if_neg hg]
    refine .inl ⟨rfl, ⟨ok1, h.down, h.room, ?_, h.sf, ?_, ?_, fun _ => isSome_put h.ok.now _ _, fun q h1 h2 => ?_, hwt, by simp [h.len]⟩⟩
    · show pgs (put et _ x.now) ef = P
      rw [pgs_put h.ok.now, if_neg eft]; exact h.f
    · show (mGet (put et _ x.now) ef).isSome = true
      rw [get_put h.ok.now, if_neg eft]; exact h.ff
    · show pgs (put et (setP (pgs x.now et) Q.length (pad b)) x.now) et = _
      rw [pgs_put h.ok.now, if_pos rfl, hs]
    · show mGet (put et _ x.now) q = none
      rw [get_put h.ok.now, if_neg h2]; exact h.now q h1 h2

/-- an act on a file that is there. -/
theorem may_some {x : D} {s : Str} (hd : x.down = false) (hs : (mGet x.now s).isSome = true) : may x s = if goes x then (8, off (act x).keep (act x)) else (0, act x) := by
  unfold may
  rw [if_neg (by rw [hd]; decide)]
  cases hg : mGet x.now s with
  | none => rw [hg] at hs; cases hs
  | some _ => rfl
/-- both are there and safe. -/
structure RenS (P Q : List Str) (x : D) : Prop where
  ok : Ok x
  down : x.down = false
  sf : pgs x.safe ef = P
  st : pgs x.safe et = Q
  tt : (mGet x.now et).isSome = true
  waits : x.waits = []
theorem RenT.sync {P Q : List Str} {x : D} (h : RenT P Q x) (hQ : Q ≠ []) : let r := Dk.sync x et; (r.1 = 0 ∧ RenS P Q r.2) ∨ (r.1 = 8 ∧ RenB P r.2) := by
  have hx := h.ok
  have hd0 : drop x.waits et 0 = [] := by
    unfold drop
    refine List.filter_eq_nil_iff.2 fun w hw => ?_
    simp [h.waits w hw]
  dsimp only
  by_cases hg : goes x = true
  · have hs : Dk.sync x et = (8, off (act x).keep (act x)) := by unfold Dk.sync; rw [may_some h.down (h.tt hQ), if_pos hg]; rfl
    rw [hs]
    exact .inr ⟨rfl, RenB.of (ok_act hx) h.down h.sf (fun w hw => by rw [h.waits w hw]; exact eft.symm) _⟩
  · have hs : Dk.sync x et = (0, { act x with safe := put et (pgs x.now et) x.safe, waits := drop x.waits et 0 }) := by unfold Dk.sync; rw [may_some h.down (h.tt hQ), if_neg hg]; rfl
    rw [hs, hd0]
    refine .inl ⟨rfl, ⟨?_, h.down, ?_, ?_, h.tt hQ, rfl⟩⟩
    · refine ⟨hx.now, srt_put hx.safe _ _, hx.room, hx.tot, fun m => ?_, fun w hw => (by cases hw), hx.pnow, fun m p hp => ?_, (ok_act hx).fuse, hx.keep⟩
      · show (pgs (put et (pgs x.now et) x.safe) m).length ≤ (pgs x.now m).length
        rw [pgs_put hx.safe]; split
        · rename_i e; rw [e]; exact Nat.le_refl _
        · exact hx.fewer m
      · have hp : p ∈ pgs (put et (pgs x.now et) x.safe) m := hp
        rw [pgs_put hx.safe] at hp; split at hp
        · exact hx.pnow _ _ hp
        · exact hx.psafe _ _ hp
    · show pgs (put et (pgs x.now et) x.safe) ef = P
      rw [pgs_put hx.safe, if_neg eft]; exact h.sf
    · show pgs (put et (pgs x.now et) x.safe) et = Q
      rw [pgs_put hx.safe, if_pos rfl]; exact h.t
/-- the second one is in the first one's place, and safe. -/
structure RenD (Q : List Str) (x : D) : Prop where
  ok : Ok x
  down : x.down = false
  sf : pgs x.safe ef = Q
  waits : x.waits = []
theorem RenS.rename {P Q : List Str} {x : D} (h : RenS P Q x) : let r := Dk.rename x et ef; (r.1 = 0 ∧ RenD Q r.2) ∨ (r.1 = 8 ∧ RenB P r.2) := by
  have hx := h.ok
  dsimp only
  by_cases hg : goes x = true
  · have hs : Dk.rename x et ef = (8, off (act x).keep (act x)) := by unfold Dk.rename; rw [may_some h.down h.tt, if_pos hg]; rfl
    rw [hs]
    exact .inr ⟨rfl, RenB.of (ok_act hx) h.down h.sf (fun w hw => by have hw : w ∈ x.waits := hw; rw [h.waits] at hw; cases hw) _⟩
  · have hs : Dk.rename x et ef = (0, { act x with now := moved et ef x.now, safe := moved et ef x.safe, waits := (drop x.waits ef 0).map (turnW et ef) }) := by
      unfold Dk.rename; rw [may_some h.down h.tt, if_neg hg]; simp only; rw [if_pos ⟨trivial, eft.symm⟩]; rfl
    rw [hs]
    refine .inl ⟨rfl, ⟨ok_rename (ok_act hx) eft.symm, h.down, ?_, ?_⟩⟩
    · show pgs (moved et ef x.safe) ef = Q
      rw [pgs_moved hx.safe, if_pos rfl]; exact h.st
    · show (drop x.waits ef 0).map _ = []
      rw [h.waits]; rfl
/-- on again. -/
structure Fin (W : List Str) (x : D) : Prop where
  ok : Ok x
  down : x.down = false
  f : pgs x.now ef = W
theorem ok_on {x : D} (h : Ok x) : Ok (on x) := ⟨h.now, h.safe, h.room, h.tot, h.fewer, h.waits, h.pnow, h.psafe, h.fuse, h.keep⟩
theorem RenB.fin {P : List Str} {x : D} (h : RenB P x) (keep : Int) : Fin P (on (off keep x)) := by
  have : off keep x = x := by unfold off; rw [if_pos h.down]
  rw [this]
  exact ⟨ok_on h.ok, rfl, h.f⟩
theorem RenD.fin {Q : List Str} {x : D} (h : RenD Q x) (keep : Int) : Fin Q (on (off keep x)) :=
  ⟨ok_on (ok_off h.ok keep), rfl, by show pgs (off keep x).now ef = Q; rw [pgs_off h.ok h.down keep (fun w hw => by rw [h.waits] at hw; cases hw), h.sf]⟩
theorem Fin.count {W : List Str} {x : D} (h : Fin W x) : Dk.count x ef = W.length := by simp [Dk.count, h.down, h.f]
theorem Fin.read {W : List Str} {x : D} (h : Fin W x) {i : Nat} {p : Str} (hi : W[i]? = some p) : Dk.read x ef i = (p, 0) := by
  have hlt := (List.getElem?_eq_some_iff.1 hi).1
  unfold Dk.read
  rw [if_neg (by rw [h.down]; decide), h.f, if_neg (by omega), Int.toNat_natCast, List.getD_eq_getElem?_getD, hi]
  rfl
end Go.Dk
