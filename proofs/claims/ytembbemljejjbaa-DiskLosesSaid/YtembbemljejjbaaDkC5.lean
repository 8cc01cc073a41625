/-
  The disk, plainly: what a page may be behind a loss of power. Conditions: none.
-/
import Derived.Test.YtembbemljejjbaaDkC4
set_option linter.unusedSimpArgs false
set_option linter.unusedVariables false
namespace Go.Dk
open Go Go.Vc

/-- pages are laid, one behind the other. -/
structure Los0 (i : Nat) (x : D) : Prop where
  ok : Ok x
  down : x.down = false
  fuse : x.fuse = 0
  room : x.room = 20
  f : pgs x.now ef = List.replicate i zp
  ff : 0 < i → (mGet x.now ef).isSome = true
  now : ∀ q, q ≠ ef → mGet x.now q = none
  waits : ∀ w ∈ x.waits, w.n = ef
  len : x.waits.length = i
theorem los0_new : Los0 0 (new 20) := ⟨(by
    refine ⟨List.Pairwise.nil, List.Pairwise.nil, ?_, ?_, fun n => Nat.le_refl _, fun w hw => (by cases hw), fun n p hp => (by cases hp), fun n p hp => (by cases hp), (by decide), ⟨(by decide), (by decide)⟩⟩
    · show (min (max (20 : Int) 0) 4096).toNat ≤ 4096; omega
    · exact Nat.zero_le _), rfl, rfl, rfl, rfl, fun h => absurd h (by omega), fun q _ => rfl, fun w hw => (by cases hw), rfl⟩
theorem pad_nil : pad ⟨#[]⟩ = zp := by
  unfold pad zp
  have e : (⟨#[]⟩ : ByteArray).size = 0 := rfl
  rw [e]; simp
theorem Los0.write {i : Nat} {x : D} (h : Los0 i x) (hi : i < 6) : (Dk.write x ef i ⟨#[]⟩).1 = 0 ∧ Los0 (i + 1) (Dk.write x ef i ⟨#[]⟩).2 := by
  have t1 := tot_ft h.ok.now fun q h1 _ => h.now q h1
  have ht : pgs x.now et = [] := by unfold pgs; rw [h.now et eft.symm]; rfl
  rw [ht, h.f] at t1
  have hr := h.room
  have hlen : i = (pgs x.now ef).length := by rw [h.f]; simp
  have fr : 1 ≤ free x := by unfold free; simp at t1; omega
  have hb : (⟨#[]⟩ : Str).size ≤ 512 := by show 0 ≤ 512; omega
  have w1 := write_ok (n := ef) (i := i) h.down h.fuse hb hlen fr
  have ok1 := ok_write (s := ef) (k := i) h.ok (by omega) hb fun _ => fr
  rw [w1]
  have hs : setP (pgs x.now ef) i (pad ⟨#[]⟩) = List.replicate (i + 1) zp := by
    rw [pad_nil]
    have := setP_end (List.replicate i zp) zp
    rw [List.length_replicate] at this
    rw [h.f, this, List.replicate_succ']
  refine ⟨rfl, ⟨ok1, h.down, ?_, h.room, ?_, fun _ => ?_, fun q hq => ?_, fun w hw => ?_, ?_⟩⟩
  · show x.fuse - 1 = 0; rw [h.fuse]
  · show pgs (put ef (setP (pgs x.now ef) i (pad ⟨#[]⟩)) x.now) ef = _
    rw [pgs_put h.ok.now, if_pos rfl, hs]
  · exact isSome_put h.ok.now _ _
  · show mGet (put ef _ x.now) q = none
    rw [get_put h.ok.now, if_neg hq]; exact h.now q hq
  · rcases List.mem_append.1 hw with hw | hw
    · exact h.waits w hw
    · simp at hw; rw [hw]
  · show (x.waits ++ [_]).length = _
    simp [h.len]

/-- the power is on; what each page may be. -/
structure LosA (L : Nat → List Str) (x : D) : Prop where
  ok : Ok x
  down : x.down = false
  six : (pgs x.now ef).length = 6
  safe : ∀ p, p < 6 → ∃ s ∈ L p, (pgs x.safe ef)[p]? = some s
  slen : (pgs x.safe ef).length = 6
  waits : ∀ w ∈ x.waits, w.n = ef ∧ w.i < 6 ∧ w.p ∈ L w.i
  last : ∀ p, p < 6 → ∃ s, (L p).getLast? = some s ∧ (pgs x.now ef)[p]? = some s
/-- each page is one that it may be. -/
structure LosB (L : Nat → List Str) (x : D) : Prop where
  ok : Ok x
  down : x.down = true
  six : (pgs x.now ef).length = 6
  may : ∀ p, p < 6 → ∃ s ∈ L p, (pgs x.now ef)[p]? = some s
  w0 : x.waits = []
theorem isSome_of_len {F : Fs} {q : Str} (h : 0 < (pgs F q).length) : (mGet F q).isSome = true := by
  unfold pgs at h
  cases hg : mGet F q with
  | some _ => rfl
  | none => rw [hg] at h; simp at h
theorem Los0.sync {x : D} (h : Los0 6 x) (n keep : Int) (hn : n ≤ 9223372036854775807) (hk : 0 ≤ keep ∧ keep < 18446744073709551616) : LosA (fun _ => [zp]) (arm (Dk.sync x ef).2 n keep) ∧ (arm (Dk.sync x ef).2 n keep).waits = [] := by
  have hs : Dk.sync x ef = (0, { act x with safe := put ef (pgs x.now ef) x.safe, waits := drop x.waits ef 0 }) := by
    unfold Dk.sync; rw [may0 h.down h.fuse (h.ff (by omega))]; rfl
  rw [hs]
  have hx := h.ok
  have hd0 : drop x.waits ef 0 = [] := by
    unfold drop
    refine List.filter_eq_nil_iff.2 fun w hw => ?_
    simp [h.waits w hw]
  rw [hd0]
  have hsf : pgs (put ef (pgs x.now ef) x.safe) ef = List.replicate 6 zp := by rw [pgs_put hx.safe, if_pos rfl, h.f]
  have hg : ∀ p, p < 6 → (List.replicate 6 zp)[p]? = some zp := fun p hp => by rw [List.getElem?_replicate, if_pos hp]
  refine ⟨⟨?_, h.down, ?_, fun p hp => ⟨zp, by simp, ?_⟩, ?_, fun w hw => (by cases hw), fun p hp => ⟨zp, rfl, ?_⟩⟩, rfl⟩
  · refine ⟨hx.now, srt_put hx.safe _ _, hx.room, hx.tot, fun m => ?_, fun w hw => (by cases hw), hx.pnow, fun m p hp => ?_, ?_, hk⟩
    · show (pgs (put ef (pgs x.now ef) x.safe) m).length ≤ (pgs x.now m).length
      rw [pgs_put hx.safe]; split
      · rename_i e; rw [e]; exact Nat.le_refl _
      · exact hx.fewer m
    · have hp : p ∈ pgs (put ef (pgs x.now ef) x.safe) m := hp
      rw [pgs_put hx.safe] at hp; split at hp
      · exact hx.pnow _ _ hp
      · exact hx.psafe _ _ hp
    · show n.toNat ≤ _; omega
  · show (pgs x.now ef).length = 6
    rw [h.f]; simp
  · show (pgs (put ef (pgs x.now ef) x.safe) ef)[p]? = _
    rw [hsf]; exact hg p hp
  · show (pgs (put ef (pgs x.now ef) x.safe) ef).length = _
    rw [hsf]; simp
  · show (pgs x.now ef)[p]? = _
    rw [h.f]; exact hg p hp
theorem setP_in {l : List Str} {i : Nat} (p : Str) (h : i < l.length) : setP l i p = l.set i p := by
  unfold setP
  rw [show i + 1 - l.length = 0 by omega, List.replicate_zero, List.append_nil]
theorem keepW_may (keep : Int) (L : Nat → List Str) : ∀ (ws : List Wt) (i : Nat) (F : Fs), SrtF F → (pgs F ef).length = 6 → (∀ p, p < 6 → ∃ s ∈ L p, (pgs F ef)[p]? = some s) → (∀ w ∈ ws, w.n = ef ∧ w.i < 6 ∧ w.p ∈ L w.i) →
    (pgs (keepW keep i ws F) ef).length = 6 ∧ ∀ p, p < 6 → ∃ s ∈ L p, (pgs (keepW keep i ws F) ef)[p]? = some s
  | [], _, _, _, h6, hm, _ => ⟨h6, hm⟩
  | w :: ws, i, F, hF, h6, hm, hw => by
    have hw' : ∀ v ∈ ws, v.n = ef ∧ v.i < 6 ∧ v.p ∈ L v.i := fun v hv => hw v (List.mem_cons_of_mem _ hv)
    obtain ⟨w1, w2, w3⟩ := hw w List.mem_cons_self
    unfold keepW
    split
    · have e : pgs (app1 F w) ef = (pgs F ef).set w.i w.p := by unfold app1; rw [pgs_put hF, w1, if_pos rfl, setP_in _ (by omega)]
      refine keepW_may keep L ws (i + 1) (app1 F w) (srt_put hF _ _) (by rw [e, List.length_set]; exact h6) (fun p hp => ?_) hw'
      rw [e, List.getElem?_set]
      by_cases h : w.i = p
      · subst h; exact ⟨w.p, w3, by rw [if_pos rfl, if_pos (by omega)]⟩
      · rw [if_neg h]; exact hm p hp
    · exact keepW_may keep L ws (i + 1) F hF h6 hm hw'
theorem LosB.of {L : Nat → List Str} {y : D} (ok : Ok y) (hd : y.down = false) (slen : (pgs y.safe ef).length = 6) (safe : ∀ p, p < 6 → ∃ s ∈ L p, (pgs y.safe ef)[p]? = some s) (waits : ∀ w ∈ y.waits, w.n = ef ∧ w.i < 6 ∧ w.p ∈ L w.i) (keep : Int) : LosB L (off keep y) := by
  have e : (off keep y).now = offS keep y := by unfold off; rw [if_neg (by rw [hd]; decide)]
  have e2 : pgs (off keep y).now ef = pgs (keepW keep 0 y.waits y.safe) ef := by
    rw [e]
    show pgs (List.foldl addN (keepW keep 0 y.waits y.safe) (names y.now)) ef = _
    rw [pgs_addAll _ _ (srt_keepW _ _ _ _ ok.safe)]
  obtain ⟨h1, h2⟩ := keepW_may keep L y.waits 0 y.safe ok.safe slen safe waits
  exact ⟨ok_off ok keep, off_down keep, by rw [e2]; exact h1, by rw [e2]; exact h2, off_waits hd keep⟩
def addL (L : Nat → List Str) (p : Nat) (s : Str) : Nat → List Str := fun k => if k = p then L k ++ [s] else L k
theorem mem_addL {L : Nat → List Str} {p k : Nat} {s t : Str} (h : t ∈ L k) : t ∈ addL L p s k := by
  unfold addL; split
  · exact List.mem_append_left _ h
  · exact h
theorem LosA.write {L : Nat → List Str} {x : D} (h : LosA L x) {p : Nat} (hp : p < 6) {b : Str} (hb : b.size ≤ 512) :
    let r := Dk.write x ef p b; (r.1 = 0 ∧ LosA (addL L p (pad b)) r.2 ∧ r.2.waits.length = x.waits.length + 1) ∨ (r.1 = 8 ∧ LosB (addL L p (pad b)) r.2) := by
  have h6 := h.six
  have ok1 := ok_write (s := ef) (k := p) h.ok (by omega) hb fun e => by omega
  have hw : Dk.write x ef p b = (if goes x then (8, off (act x).keep { act x with now := put ef (setP (pgs x.now ef) p (pad b)) x.now, waits := x.waits ++ [⟨ef, p, pad b⟩] })
      else (0, { act x with now := put ef (setP (pgs x.now ef) p (pad b)) x.now, waits := x.waits ++ [⟨ef, p, pad b⟩] })) := by
    simp only [Dk.write, h.down, Bool.false_eq_true, if_false, if_neg (show ¬ 512 < b.size by omega), if_neg (show ¬ ((p : Int) < 0 ∨ ((pgs x.now ef).length : Int) < p) by omega),
      if_neg (show ¬ ((p : Int) = (pgs x.now ef).length ∧ free x < 1) by omega), Int.toNat_natCast]
  have hsafe : ∀ q, q < 6 → ∃ s ∈ addL L p (pad b) q, (pgs x.safe ef)[q]? = some s := fun q hq => by
    obtain ⟨s, h1, h2⟩ := h.safe q hq
    exact ⟨s, mem_addL h1, h2⟩
  have hwt : ∀ w ∈ x.waits ++ [⟨ef, p, pad b⟩], w.n = ef ∧ w.i < 6 ∧ w.p ∈ addL L p (pad b) w.i := fun w hw => by
    rcases List.mem_append.1 hw with hw | hw
    · obtain ⟨a, b, c⟩ := h.waits w hw; exact ⟨a, b, mem_addL c⟩
    · simp at hw; subst hw; exact ⟨rfl, hp, by simp [addL]⟩
  dsimp only
  rw [hw]
  by_cases hg : goes x = true
  · rw [if_pos hg]
    exact .inr ⟨rfl, LosB.of ok1 h.down h.slen hsafe hwt _⟩
  · rw [if_neg hg]
    have e : pgs (put ef (setP (pgs x.now ef) p (pad b)) x.now) ef = (pgs x.now ef).set p (pad b) := by rw [pgs_put h.ok.now, if_pos rfl, setP_in _ (by omega)]
    refine .inl ⟨rfl, ⟨ok1, h.down, ?_, hsafe, h.slen, hwt, fun q hq => ?_⟩, by simp⟩
    · show (pgs (put ef (setP (pgs x.now ef) p (pad b)) x.now) ef).length = 6
      rw [e, List.length_set]; exact h6
    · show ∃ s, _ ∧ (pgs (put ef (setP (pgs x.now ef) p (pad b)) x.now) ef)[q]? = some s
      rw [e, List.getElem?_set]
      by_cases hq2 : p = q
      · subst hq2; exact ⟨pad b, by simp [addL], by rw [if_pos rfl, if_pos (by omega)]⟩
      · rw [if_neg hq2]
        unfold addL
        rw [if_neg (Ne.symm hq2)]
        exact h.last q hq
def lastL (L : Nat → List Str) : Nat → List Str := fun k => (L k).drop ((L k).length - 1)
theorem lastL_eq {l : List Str} {s : Str} (h : l.getLast? = some s) : l.drop (l.length - 1) = [s] := by
  obtain ⟨m, rfl⟩ := List.getLast?_eq_some_iff.1 h
  simp
theorem LosA.sync {L : Nat → List Str} {x : D} (h : LosA L x) : let r := Dk.sync x ef; (r.1 = 0 ∧ LosA (lastL L) r.2 ∧ r.2.waits = []) ∨ (r.1 = 8 ∧ LosB L r.2) := by
  have hx := h.ok
  have h6 := h.six
  have hff : (mGet x.now ef).isSome = true := isSome_of_len (by omega)
  have hd0 : drop x.waits ef 0 = [] := by
    unfold drop
    refine List.filter_eq_nil_iff.2 fun w hw => ?_
    simp [(h.waits w hw).1]
  dsimp only
  by_cases hg : goes x = true
  · have hs : Dk.sync x ef = (8, off (act x).keep (act x)) := by unfold Dk.sync; rw [may_some h.down hff, if_pos hg]; rfl
    rw [hs]
    exact .inr ⟨rfl, LosB.of (ok_act hx) h.down h.slen h.safe h.waits _⟩
  · have hs : Dk.sync x ef = (0, { act x with safe := put ef (pgs x.now ef) x.safe, waits := drop x.waits ef 0 }) := by unfold Dk.sync; rw [may_some h.down hff, if_neg hg]; rfl
    rw [hs, hd0]
    have e : pgs (put ef (pgs x.now ef) x.safe) ef = pgs x.now ef := by rw [pgs_put hx.safe, if_pos rfl]
    have last : ∀ p, p < 6 → ∃ s, lastL L p = [s] ∧ (pgs x.now ef)[p]? = some s := fun p hp => by
      obtain ⟨s, h1, h2⟩ := h.last p hp
      exact ⟨s, lastL_eq h1, h2⟩
    refine .inl ⟨rfl, ⟨?_, h.down, h6, fun p hp => ?_, ?_, fun w hw => (by cases hw), fun p hp => ?_⟩, rfl⟩
    · refine ⟨hx.now, srt_put hx.safe _ _, hx.room, hx.tot, fun m => ?_, fun w hw => (by cases hw), hx.pnow, fun m p hp => ?_, (ok_act hx).fuse, hx.keep⟩
      · show (pgs (put ef (pgs x.now ef) x.safe) m).length ≤ (pgs x.now m).length
        rw [pgs_put hx.safe]; split
        · rename_i e; rw [e]; exact Nat.le_refl _
        · exact hx.fewer m
      · have hp : p ∈ pgs (put ef (pgs x.now ef) x.safe) m := hp
        rw [pgs_put hx.safe] at hp; split at hp
        · exact hx.pnow _ _ hp
        · exact hx.psafe _ _ hp
    · obtain ⟨s, h1, h2⟩ := last p hp
      exact ⟨s, by rw [h1]; simp, by show (pgs (put ef (pgs x.now ef) x.safe) ef)[p]? = _; rw [e]; exact h2⟩
    · show (pgs (put ef (pgs x.now ef) x.safe) ef).length = 6
      rw [e]; exact h6
    · obtain ⟨s, h1, h2⟩ := last p hp
      exact ⟨s, by rw [h1]; rfl, h2⟩
theorem LosA.off {L : Nat → List Str} {x : D} (h : LosA L x) (keep : Int) : LosB L (Dk.off keep x) := LosB.of h.ok h.down h.slen h.safe h.waits keep
theorem LosB.off {L : Nat → List Str} {x : D} (h : LosB L x) (keep : Int) : LosB L (Dk.off keep x) := by
  have : Dk.off keep x = x := by unfold Dk.off; rw [if_pos h.down]
  rw [this]; exact h
/-- behind the loss each page that is read is one that it may be. -/
theorem LosB.read {L : Nat → List Str} {x : D} (h : LosB L x) {p : Nat} (hp : p < 6) : ∃ s ∈ L p, Dk.read (on x) ef p = (s, 0) ∧ s.size = 512 := by
  obtain ⟨s, h1, h2⟩ := h.may p hp
  have h6 := h.six
  refine ⟨s, h1, ?_, h.ok.pnow ef s (List.mem_of_getElem? h2)⟩
  unfold Dk.read
  have e : (on x).down = false := rfl
  have e2 : (on x).now = x.now := rfl
  rw [if_neg (by rw [e]; decide), e2, if_neg (by omega), Int.toNat_natCast, List.getD_eq_getElem?_getD, h2]
  rfl
end Go.Dk
