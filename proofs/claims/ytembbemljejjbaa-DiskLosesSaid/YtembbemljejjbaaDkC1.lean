/-
  The disk, plainly: what a file that is cut has behind a loss of power. Conditions: none.
-/
import Derived.Test.YtembbemljejjbaaDkC0
set_option linter.unusedSimpArgs false
set_option linter.unusedVariables false
namespace Go.Dk
open Go Go.Vc

def ef : Str := ⟨#[102]⟩
def eg : Str := ⟨#[103]⟩
theorem efg : ef ≠ eg := by decide +kernel

theorem write_ok {x : D} {n b : Str} {i : Nat} (hd : x.down = false) (hf : x.fuse = 0) (hb : b.size ≤ 512) (hi : i = (pgs x.now n).length) (hfree : 1 ≤ free x) :
    write x n i b = (0, { act x with now := put n (setP (pgs x.now n) i (pad b)) x.now, waits := x.waits ++ [⟨n, i, pad b⟩] }) := by
  have h1 : ¬ 512 < b.size := by omega
  have h2 : ¬ ((i : Int) < 0 ∨ ((pgs x.now n).length : Int) < i) := by omega
  have h3 : ¬ ((i : Int) = (pgs x.now n).length ∧ free x < 1) := by omega
  have h4 : goes x = false := by simp [goes, hf]
  simp only [write, hd, h4, Bool.false_eq_true, if_false, if_neg h1, if_neg h2, if_neg h3, Int.toNat_natCast]

/-- only two files, alike. -/
structure Two (i : Nat) (x : D) : Prop where
  ok : Ok x
  down : x.down = false
  fuse : x.fuse = 0
  room : x.room = 50
  f : (pgs x.now ef).length = i
  g : (pgs x.now eg).length = i
  ff : 0 < i → (mGet x.now ef).isSome = true
  gg : 0 < i → (mGet x.now eg).isSome = true
  now : ∀ q, q ≠ ef → q ≠ eg → mGet x.now q = none
  safe : ∀ q, mGet x.safe q = none
  waits : ∀ w ∈ x.waits, w.n = ef ∨ w.n = eg
  len : x.waits.length = 2 * i

theorem tot_two {F : Fs} (h : SrtF F) (hn : ∀ q, q ≠ ef → q ≠ eg → mGet F q = none) : tot F = (pgs F ef).length + (pgs F eg).length := by
  have h1 := tot_del h ef
  have h2 := tot_del (srt_del h ef) eg
  have h3 : del eg (del ef F) = [] := fs_ext (srt_del (srt_del h _) _) List.Pairwise.nil fun q => by
    rw [get_del, get_del]
    by_cases e1 : q = eg
    · rw [if_pos e1]; rfl
    · rw [if_neg e1]
      by_cases e2 : q = ef
      · rw [if_pos e2]; rfl
      · rw [if_neg e2, hn q e2 e1]; rfl
  rw [h3, pgs_del, if_neg efg.symm] at h2
  simp [tot] at h2
  have : tot (del ef F) = (pgs F eg).length := by unfold tot; omega
  omega
theorem isSome_put {F : Fs} (h : SrtF F) (n : Str) (l : List Str) : (mGet (put n l F) n).isSome = true := by rw [get_put h, if_pos rfl]; rfl

theorem Two.write {i : Nat} {x : D} (h : Two i x) (hi : i < 20) {b c : Str} (hb : b.size ≤ 512) (hc : c.size ≤ 512) :
    (Dk.write x ef i b).1 = 0 ∧ (Dk.write (Dk.write x ef i b).2 eg i c).1 = 0 ∧ Two (i + 1) (Dk.write (Dk.write x ef i b).2 eg i c).2 ∧ (Dk.write x ef i b).2.waits.length = 2 * i + 1 := by
  have t1 := tot_two h.ok.now h.now
  have hf := h.f
  have hg := h.g
  have hr := h.room
  have w1 := write_ok (n := ef) h.down h.fuse hb h.f.symm (by unfold free; omega)
  have ok1 := ok_write (s := ef) (k := i) h.ok (by omega) hb fun _ => by unfold free; omega
  rw [w1]
  have hsf : ∀ q, pgs (put ef (setP (pgs x.now ef) i (pad b)) x.now) q = if q = ef then setP (pgs x.now ef) i (pad b) else pgs x.now q := fun q => pgs_put h.ok.now _ _ _
  have hn1 : ∀ q, q ≠ ef → q ≠ eg → mGet (put ef (setP (pgs x.now ef) i (pad b)) x.now) q = none := fun q h1 h2 => by rw [get_put h.ok.now, if_neg h1]; exact h.now q h1 h2
  have t2 : tot (put ef (setP (pgs x.now ef) i (pad b)) x.now) = (pgs (put ef (setP (pgs x.now ef) i (pad b)) x.now) ef).length + (pgs (put ef (setP (pgs x.now ef) i (pad b)) x.now) eg).length := tot_two ok1.now hn1
  have hg1 : (pgs (put ef (setP (pgs x.now ef) i (pad b)) x.now) eg).length = i := by rw [hsf, if_neg efg.symm]; exact hg
  have hf1 : (pgs (put ef (setP (pgs x.now ef) i (pad b)) x.now) ef).length = i + 1 := by rw [hsf, if_pos rfl, setP_len]; omega
  have fr : 1 ≤ free { act x with now := put ef (setP (pgs x.now ef) i (pad b)) x.now, waits := x.waits ++ [⟨ef, i, pad b⟩] } := by
    show 1 ≤ (x.room : Int) - (tot (put ef (setP (pgs x.now ef) i (pad b)) x.now) : Nat)
    omega
  have w2 := write_ok (x := { act x with now := put ef (setP (pgs x.now ef) i (pad b)) x.now, waits := x.waits ++ [⟨ef, i, pad b⟩] }) (n := eg) (b := c) (i := i) h.down (by show x.fuse - 1 = 0; rw [h.fuse]) hc hg1.symm fr
  rw [w2]
  have ok2 := ok_write (x := { act x with now := put ef (setP (pgs x.now ef) i (pad b)) x.now, waits := x.waits ++ [⟨ef, i, pad b⟩] }) (s := eg) (b := c) (k := i) ok1 (by show i ≤ (pgs (put ef (setP (pgs x.now ef) i (pad b)) x.now) eg).length; omega) hc fun _ => fr
  have s1 : SrtF (put ef (setP (pgs x.now ef) i (pad b)) x.now) := ok1.now
  refine ⟨rfl, rfl, ⟨ok2, h.down, ?_, h.room, ?_, ?_, fun _ => ?_, fun _ => ?_, fun q h1 h2 => ?_, h.safe, fun w hw => ?_, ?_⟩, ?_⟩
  · show x.fuse - 1 - 1 = 0; rw [h.fuse]
  · show (pgs (put eg _ (put ef (setP (pgs x.now ef) i (pad b)) x.now)) ef).length = _
    rw [pgs_put s1, if_neg efg]; exact hf1
  · show (pgs (put eg (setP (pgs (put ef (setP (pgs x.now ef) i (pad b)) x.now) eg) i (pad c)) (put ef (setP (pgs x.now ef) i (pad b)) x.now)) eg).length = _
    rw [pgs_put s1, if_pos rfl, setP_len]; omega
  · show (mGet (put eg _ (put ef (setP (pgs x.now ef) i (pad b)) x.now)) ef).isSome = true
    rw [get_put s1, if_neg efg]; exact isSome_put h.ok.now _ _
  · exact isSome_put s1 _ _
  · show mGet (put eg _ (put ef (setP (pgs x.now ef) i (pad b)) x.now)) q = none
    rw [get_put s1, if_neg h2]; exact hn1 q h1 h2
  · have hw : w ∈ (x.waits ++ [(⟨ef, i, pad b⟩ : Wt)]) ++ [(⟨eg, i, pad c⟩ : Wt)] := hw
    simp only [List.mem_append, List.mem_singleton] at hw
    rcases hw with (hw | hw) | hw
    · exact h.waits w hw
    · rw [hw]; exact .inl rfl
    · rw [hw]; exact .inr rfl
  · show ((x.waits ++ [(⟨ef, i, pad b⟩ : Wt)]) ++ [(⟨eg, i, pad c⟩ : Wt)]).length = _
    have := h.len
    simp; omega
  · show (x.waits ++ [(⟨ef, i, pad b⟩ : Wt)]).length = _
    have := h.len
    simp; omega

/-- behind the syncs: one safe file at most. -/
structure Pre (i : Nat) (b : Bool) (x : D) : Prop where
  ok : Ok x
  down : x.down = false
  fuse : x.fuse = 0
  room : x.room = 50
  f : (pgs x.now ef).length = i
  ff : (mGet x.now ef).isSome = true
  gg : (mGet x.now eg).isSome = true
  now : ∀ q, q ≠ ef → q ≠ eg → mGet x.now q = none
  safe : ∀ q, q ≠ ef → mGet x.safe q = none
  sf : b = true → (pgs x.safe ef).length = i
  waits : ∀ w ∈ x.waits, w.n = ef ∨ w.n = eg
  len : x.waits.length ≤ 40

theorem Two.pre {i : Nat} {x : D} (h : Two i x) (hi : 0 < i) (h20 : i ≤ 20) : Pre i false x :=
  ⟨h.ok, h.down, h.fuse, h.room, h.f, h.ff hi, h.gg hi, h.now, fun q _ => h.safe q, fun e => (by cases e), h.waits, by have := h.len; omega⟩
theorem may0 {x : D} {s : Str} (hd : x.down = false) (hf : x.fuse = 0) (hs : (mGet x.now s).isSome = true) : may x s = (0, act x) := by
  have hg : goes x = false := by simp [goes, hf]
  unfold may
  cases hm : mGet x.now s with
  | none => rw [hm] at hs; cases hs
  | some l => simp [hd, ended, hg]
theorem Two.sync {i : Nat} {x : D} (h : Two i x) (hi : 0 < i) (h20 : i ≤ 20) : Pre i true (Dk.sync x ef).2 := by
  have hs : Dk.sync x ef = (0, { act x with safe := put ef (pgs x.now ef) x.safe, waits := drop x.waits ef 0 }) := by
    unfold Dk.sync; rw [may0 h.down h.fuse (h.ff hi)]; rfl
  rw [hs]
  have p := h.pre hi h20
  have ok2 : Ok { act x with safe := put ef (pgs x.now ef) x.safe, waits := drop x.waits ef 0 } := by
    have a := ok_act h.ok
    refine ⟨a.now, srt_put a.safe _ _, a.room, a.tot, fun n => ?_, fun w hw => a.waits w (mem_drop hw).1, a.pnow, fun n q hq => ?_, a.fuse, a.keep⟩
    · show (pgs (put ef (pgs x.now ef) x.safe) n).length ≤ (pgs x.now n).length
      rw [pgs_put h.ok.safe]; split
      · rename_i e; rw [e]; exact Nat.le_refl _
      · exact h.ok.fewer n
    · have hq : q ∈ pgs (put ef (pgs x.now ef) x.safe) n := hq
      rw [pgs_put h.ok.safe] at hq; split at hq
      · exact h.ok.pnow _ _ hq
      · exact h.ok.psafe _ _ hq
  refine ⟨ok2, h.down, by show x.fuse - 1 = 0; rw [h.fuse], h.room, h.f, p.ff, p.gg, h.now, fun q hq => ?_, fun _ => ?_, fun w hw => h.waits w (mem_drop hw).1, ?_⟩
  · show mGet (put ef (pgs x.now ef) x.safe) q = none
    rw [get_put h.ok.safe, if_neg hq]; exact h.safe q
  · show (pgs (put ef (pgs x.now ef) x.safe) ef).length = i
    rw [pgs_put h.ok.safe, if_pos rfl]; exact h.f
  · have : (drop x.waits ef 0).length ≤ x.waits.length := List.length_filter_le _ _
    have h2 := h.len
    show (drop x.waits ef 0).length ≤ 40
    omega

theorem keepW_ge (keep : Int) (n : Str) : ∀ (ws : List Wt) (i : Nat) (F : Fs), SrtF F → (pgs F n).length ≤ (pgs (keepW keep i ws F) n).length
  | [], _, _, _ => Nat.le_refl _
  | w :: ws, i, F, h => by
    unfold keepW
    split
    · refine Nat.le_trans ?_ (keepW_ge keep n ws (i + 1) (app1 F w) (srt_put h _ _))
      unfold app1; rw [pgs_put h]; split
      · rename_i e; rw [e, setP_len]; omega
      · exact Nat.le_refl _
    · exact keepW_ge keep n ws (i + 1) F h
theorem keepW_none (keep : Int) (q : Str) : ∀ (ws : List Wt) (i : Nat) (F : Fs), SrtF F → mGet F q = none → (∀ w ∈ ws, w.n ≠ q) → mGet (keepW keep i ws F) q = none
  | [], _, _, _, h, _ => h
  | w :: ws, i, F, hF, h, hw => by
    have h1 : mGet (app1 F w) q = none := by unfold app1; rw [get_put hF, if_neg (Ne.symm (hw w List.mem_cons_self))]; exact h
    unfold keepW
    split
    · exact keepW_none keep q ws (i + 1) _ (srt_put hF _ _) h1 fun w h => hw w (List.mem_cons_of_mem _ h)
    · exact keepW_none keep q ws (i + 1) _ hF h fun w h => hw w (List.mem_cons_of_mem _ h)
theorem srt_keepW (keep : Int) : ∀ (ws : List Wt) (i : Nat) (F : Fs), SrtF F → SrtF (keepW keep i ws F)
  | [], _, _, h => h
  | w :: ws, i, F, h => by
    unfold keepW
    split
    · exact srt_keepW keep ws (i + 1) _ (srt_put h _ _)
    · exact srt_keepW keep ws (i + 1) _ h

/-- what the law asks of a file that was cut. -/
theorem Pre.end_ {i : Nat} {b : Bool} {x : D} (h : Pre i b x) (k : Nat) (keep : Int) :
    ∃ y z, cut x ef k = (0, y) ∧ y.waits.length ≤ 40 ∧ remove y eg = (0, z) ∧ z.waits.length ≤ 40 ∧
      (let u := on (off keep z); count u ef ≤ k ∧ count u ef ≤ i ∧ (b = true → count u ef = min k i) ∧ has u ef = true ∧ has u eg = false ∧ free u = 50 - count u ef) := by
  have hc0 : (!x.down && (mGet x.now ef).isSome && decide ((k : Int) < 0)) = false := by
    have : decide ((k : Int) < 0) = false := decide_eq_false (by omega)
    rw [this, Bool.and_false]
  have hc : cut x ef k = (0, { act x with now := put ef ((pgs x.now ef).take k) x.now, safe := put ef ((pgs x.safe ef).take k) x.safe, waits := drop x.waits ef k }) := by
    unfold cut; rw [hc0, may0 h.down h.fuse h.ff]; rfl
  have okc := ok_cut (ok_act h.ok) ef k
  have ln : ∀ {ws : List Wt} {s : Str} {k : Int}, (drop ws s k).length ≤ ws.length := List.length_filter_le _ _
  have sN : SrtF x.now := h.ok.now
  have sS : SrtF x.safe := h.ok.safe
  have hgg : (mGet (put ef ((pgs x.now ef).take k) x.now) eg).isSome = true := by rw [get_put sN, if_neg efg.symm]; exact h.gg
  generalize hy : ({ act x with now := put ef ((pgs x.now ef).take k) x.now, safe := put ef ((pgs x.safe ef).take k) x.safe, waits := drop x.waits ef k } : D) = y at hc
  have ey1 : y.now = put ef ((pgs x.now ef).take k) x.now := by rw [← hy]
  have ey2 : y.safe = put ef ((pgs x.safe ef).take k) x.safe := by rw [← hy]
  have ey3 : y.waits = drop x.waits ef k := by rw [← hy]
  have ey4 : y.down = false := by rw [← hy]; exact h.down
  have ey5 : y.fuse = 0 := by rw [← hy]; show x.fuse - 1 = 0; rw [h.fuse]
  have ey6 : y.room = 50 := by rw [← hy]; exact h.room
  have oky : Ok y := by rw [← hy]; exact okc
  have hr : remove y eg = (0, { act y with now := del eg y.now, safe := del eg y.safe, waits := drop y.waits eg 0 }) := by
    unfold remove; rw [may0 ey4 ey5 (by rw [ey1]; exact hgg)]; rfl
  refine ⟨y, _, hc, by rw [ey3]; exact Nat.le_trans ln h.len, hr, ?_, ?_⟩
  · show (drop y.waits eg 0).length ≤ 40
    rw [ey3]; exact Nat.le_trans ln (Nat.le_trans ln h.len)
  have okz : Ok { act y with now := del eg y.now, safe := del eg y.safe, waits := drop y.waits eg 0 } := ok_remove (ok_act oky) eg
  generalize hz : ({ act y with now := del eg y.now, safe := del eg y.safe, waits := drop y.waits eg 0 } : D) = z at okz
  have ez1 : z.now = del eg y.now := by rw [← hz]
  have ez2 : z.safe = del eg y.safe := by rw [← hz]
  have ez3 : z.waits = drop y.waits eg 0 := by rw [← hz]
  have ez4 : z.down = false := by rw [← hz]; exact ey4
  have ez6 : z.room = 50 := by rw [← hz]; exact ey6
  have oo := ok_offS okz keep
  have pn : (pgs z.now ef).length = min k i := by rw [ez1, pgs_del, if_neg efg, ey1, pgs_put sN, if_pos rfl, List.length_take, h.f]
  have up : (pgs (offS keep z) ef).length ≤ min k i := by rw [← pn]; exact oo.fewer ef
  have sz : SrtF z.safe := okz.safe
  have lo : b = true → min k i ≤ (pgs (offS keep z) ef).length := fun hb => by
    have e1 : (pgs (offS keep z) ef) = pgs (keepW keep 0 z.waits z.safe) ef := pgs_addAll _ _ (srt_keepW _ _ _ _ sz) _
    rw [e1]
    refine Nat.le_trans ?_ (keepW_ge keep ef z.waits 0 z.safe sz)
    rw [ez2, pgs_del, if_neg efg, ey2, pgs_put sS, if_pos rfl, List.length_take, h.sf hb]
    exact Nat.le_refl _
  have nf : ef ∈ names z.now := by
    rw [← Classical.not_not (a := ef ∈ names z.now), ← mGet_none, ez1, get_del, if_neg efg, ey1, get_put sN, if_pos rfl]
    simp
  have others : ∀ q, q ≠ ef → mGet (offS keep z) q = none := fun q hq => by
    have h1 : q ∉ names z.now := by
      rw [← mGet_none, ez1, get_del]
      by_cases e : q = eg
      · rw [if_pos e]
      · rw [if_neg e, ey1, get_put sN, if_neg hq]; exact h.now q hq e
    have h2 : mGet (keepW keep 0 z.waits z.safe) q = none := by
      refine keepW_none keep q z.waits 0 z.safe sz ?_ fun w hw => ?_
      · rw [ez2, get_del]
        by_cases e : q = eg
        · rw [if_pos e]
        · rw [if_neg e, ey2, get_put sS, if_neg hq]; exact h.safe q hq
      · rw [ez3] at hw
        obtain ⟨a1, a2⟩ := mem_drop hw
        rw [ey3] at a1
        have a3 := h.waits w (mem_drop a1).1
        have a4 : w.n ≠ eg := fun e => a2 ⟨e, by omega⟩
        rw [a3.resolve_right a4]; exact Ne.symm hq
    unfold offS
    rw [get_addAll _ _ (srt_keepW _ _ _ _ sz), h2]
    exact if_neg h1
  have some_f : (mGet (offS keep z) ef).isSome = true := by
    unfold offS
    rw [get_addAll _ _ (srt_keepW _ _ _ _ sz)]
    cases mGet (keepW keep 0 z.waits z.safe) ef with
    | some _ => rfl
    | none => dsimp only; rw [if_pos nf]; rfl
  have tt : tot (offS keep z) = (pgs (offS keep z) ef).length := by
    have := tot_two oo.safe fun q h1 _ => others q h1
    have h2 : (pgs (offS keep z) eg).length = 0 := by simp [pgs, others eg efg.symm]
    show tot (offS keep z) = _
    rw [this, h2]; rfl
  have hnow : (on (off keep z)).now = offS keep z := by show (off keep z).now = _; unfold off; rw [if_neg (by rw [ez4]; decide)]
  have hdn : (on (off keep z)).down = false := rfl
  have hrm : (on (off keep z)).room = 50 := by show (off keep z).room = _; unfold off; rw [if_neg (by rw [ez4]; decide)]; exact ez6
  have hct : count (on (off keep z)) ef = (pgs (offS keep z) ef).length := by unfold count; rw [hdn, hnow]; rfl
  refine ⟨by rw [hct]; omega, by rw [hct]; omega, fun hb => by have := lo hb; rw [hct]; omega, ?_, ?_, ?_⟩
  · unfold has; rw [hdn, hnow, some_f]; rfl
  · unfold has; rw [hdn, hnow, others eg efg.symm]; rfl
  · rw [hct]; unfold free; rw [hnow, hrm, tt]; rfl
end Go.Dk
