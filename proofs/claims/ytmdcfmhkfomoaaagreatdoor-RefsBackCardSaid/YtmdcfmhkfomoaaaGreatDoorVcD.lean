/-
  The symbolic run of a whole region is sound: what it asks suffices for the region's operations in the order of the text. Conditions: none.
-/
import Derived.Test.YtmdcfmhkfomoaaaGreatDoorVcC
set_option linter.unusedSimpArgs false
set_option linter.unusedVariables false
namespace Go.Vc
open Go

theorem readK_sound {P : Program} {sh : Sh} {o : Oper} {ρ : Operand → Value} {h : Heap} {c : Bool} {G : Prop → Prop} {K : Value → Prop}
    (hG : ∀ X, G X → (c = true → X)) (hh : readK P sh o ρ h G K) : ∃ v, (c = true → ReadAt P o ρ h v) ∧ K v := by
  have run : ∀ (s : Sem Value) (v : Value), Reads P s h v → (execOp ρ o = (do let x ← s; pure (Next.value x) : Sem Next)) → ReadAt P o ρ h v := fun s v hr he w hw =>
    .inl (by rw [he, Sem.run_bind, hr.run w hw]; rfl)
  unfold readK at hh
  split at hh
  · rename_i g hop
    exact ⟨undef, fun hc w hw => .inr ⟨by
      have := (hG _ hh.1 hc).run w hw
      simp [execOp, hop, this], rfl⟩, hh.2⟩
  · rename_i hnr
    clear hnr
    split at hh
    · rename_i s hs
      obtain ⟨v, g, k⟩ := exSh_some hh
      refine ⟨v, fun hc => run s v (hG _ g hc) ?_, k⟩
      clear hh g k run hG hc
      obtain ⟨dst, op, ty, pos, after, guard⟩ := o
      cases op <;> simp only [semR, Option.some.injEq, reduceCtorEq] at hs <;> try (subst hs; rfl)
      case call cl =>
        obtain ⟨callee, args, argTypes⟩ := cl
        cases callee <;> (try (simp [semR, semE] at hs; done))
        case builtin b =>
          cases b <;> simp only [semR, semE, Option.some.injEq, reduceCtorEq] at hs <;> (subst hs; rw [mapA_eq]; rfl)
    · exact hh.elim

theorem effK0_sound {P : Program} {o : Oper} {ρ : Operand → Value} {h : Heap} {K : Value → Heap → Prop} (hh : effK0 P o ρ h K) : EffAt P o ρ h K := by
  unfold effK0 at hh
  split at hh
  · rename_i s hs
    have he : execOp ρ o = (do let x ← s; pure (Next.value x) : Sem Next) := by
      clear hh
      obtain ⟨dst, op, ty, pos, after, guard⟩ := o
      cases op <;> simp only [semE, Option.some.injEq, reduceCtorEq] at hs <;> try (subst hs; first | rfl | (rw [← partsL_arr]; rfl))
      case call cl =>
        obtain ⟨callee, args, argTypes⟩ := cl
        cases callee <;> (try (simp [semR, semE] at hs; done))
        case builtin b =>
          cases b <;> simp only [semR, semE, Option.some.injEq, reduceCtorEq] at hs <;> (subst hs; rw [mapA_eq]; rfl)
    intro w hw
    obtain ⟨v, w', hr, hs, hk⟩ := hh.run w hw
    obtain ⟨v', rfl, hk⟩ := exSh_some hk
    rw [he, Sem.run_bind, hr]
    exact ⟨hs, hk⟩
  · split at hh
    · rename_i s hs
      have he : execOp ρ o = (do s; pure Next.skip : Sem Next) := by
        clear hh
        obtain ⟨dst, op, ty, pos, after, guard⟩ := o
        cases op <;> simp only [semU, Option.some.injEq, reduceCtorEq] at hs <;> (subst hs; rfl)
      intro w hw
      obtain ⟨v, w', hr, hs, hk⟩ := hh.run w hw
      rw [he, Sem.run_bind, hr]
      exact ⟨hs, hk⟩
    · split at hh
      · rename_i x1 x2 f args argTypes hop
        split at hh
        · rename_i f first captured hf
          split at hh
          · rename_i hok
            intro w hw
            have he : (execOp ρ o).run P w = .ok (.enter f (first ++ mapA ρ args ++ captured)) w := by
              rw [mapA_eq]
              unfold fnOk at hok
              cases hfn : P.funcs[f]? with
              | none => simp [hfn] at hok
              | some fn =>
                simp only [hfn, Bool.and_eq_true, Bool.not_eq_true', beq_eq_false_iff_ne] at hok
                obtain ⟨h1, h2⟩ := hok
                cases hb : fn.body with
                | none => rw [hb] at h2; simp at h2
                | some body => simp [execOp, hop, resolve, hf, Deferred.ofValue, invoke, callFunc, hfn, h1, hb]
            rw [he]
            refine ⟨Sane.refl _, (hh.run w hw).mono fun e w' ⟨v, he, s, k⟩ => ?_⟩
            obtain ⟨v', rfl, k⟩ := exSh_some k
            exact ⟨v, he, s, k⟩
          · exact hh.elim
        · exact hh.elim
      · rename_i x1 x2 x name args argTypes hop
        obtain ⟨f, r, hm, hh⟩ := hh
        intro w hw
        have he : (execOp ρ o).run P w = .ok (.enter f (#[r] ++ mapA ρ args)) w := by
          rw [mapA_eq]
          have hx : (#[ρ x] ++ args.map ρ).extract 1 (#[ρ x] ++ args.map ρ).size = args.map ρ := by
            apply Array.ext'
            simp only [Array.toList_extract, Array.toList_append, List.size_toArray]
            simp
            exact List.take_of_length_le (by simp)
          have := hm.run w (args.map ρ)
          have h0 : (#[ρ x] ++ args.map ρ)[0]? = some (ρ x) := by rw [Array.getElem?_append_left (by simp)]; rfl
          simp only [execOp, hop, resolve, Sem.run_bind, Sem.run_pure, Result.andThen_ok, invoke, h0]
          rw [hx]
          exact this
        rw [he]
        refine ⟨Sane.refl _, (hh.run w hw).mono fun e w' ⟨v, he, s, k⟩ => ?_⟩
        obtain ⟨v', rfl, k⟩ := exSh_some k
        exact ⟨v, he, s, k⟩
      · exact hh.elim

theorem effK_sound {P : Program} {o : Oper} {ρ : Operand → Value} {h : Heap} {K : Value → Heap → Prop} (hh : effK P o ρ h K) : EffAt P o ρ h K := by
  unfold effK at hh
  split at hh
  · rename_i e hop
    cases hz : hasZ P e with
    | false => simp [hz] at hh
    | true =>
      simp only [hz] at hh
      unfold hasZ at hz
      cases hi : P.info? e with
      | none => simp [hi] at hz
      | some i =>
        cases hzz : i.zero with
        | none => simp [hi, hzz] at hz
        | some z =>
          intro w hw
          subst hw
          have : (execOp ρ o).run P w = .ok (.value (.pointer (some ⟨w.heap.size, 0, none⟩))) { w with heap := w.heap.push (.cells z.cells e (0, 0)) } := by
            have hzv : (zeroValue e).run P w = .ok z w := by simp [zeroValue, typeInfo, hi, hzz]
            simp only [execOp, hop, Instr.alloc, Sem.run_bind, hzv, Result.andThen_ok, newVar, newRow, run_newObj, Sem.run_pure]
          rw [this]
          have hc : zc P e = z.cells := by simp [zc, hi, hzz]
          split at hh
          · obtain ⟨cs, ⟨rfl⟩, hh⟩ := hh
            rw [hc] at hh
            exact ⟨Sane.push rfl, hh⟩
          · rw [hc] at hh
            exact ⟨Sane.push rfl, hh⟩
  · rename_i it s hop
    intro w hw
    obtain ⟨v, w', hr, hs, hk⟩ := hh.run w hw
    have he : execOp ρ o = (do let x ← Instr.next (ρ it) s o.type; pure (Next.value x) : Sem Next) := by simp only [execOp, hop]
    rw [he, Sem.run_bind, hr]
    rcases hk with ⟨rfl, hk⟩ | hk
    · exact ⟨hs, hk⟩
    · cases s <;> (obtain ⟨_, _, rfl, hk⟩ := hk; exact ⟨hs, hk⟩)
  · rename_i e x hop
    intro w hw
    subst hw
    have : (execOp ρ o).run P w = .ok (.value (.pointer (some ⟨w.heap.size, 0, none⟩))) { w with heap := w.heap.push (.cells (ρ x).cells e (0, 0)) } := by
      simp only [execOp, hop, Instr.box, Sem.run_bind, Result.andThen_ok, newVar, newRow, run_newObj, Sem.run_pure]
    rw [this]
    exact ⟨Sane.push rfl, hh⟩
  · rename_i t hop
    intro w hw
    subst hw
    have : (execOp ρ o).run P w = .ok (.value (.map (some w.heap.size))) { w with heap := w.heap.push (.map #[] 0) } := by
      simp only [execOp, hop, Option.map_none, Instr.makeMap, Sem.run_bind, Result.andThen_ok, run_newObj, Sem.run_pure]
    rw [this]
    exact ⟨Sane.push rfl, hh⟩
  · exact effK0_sound hh

/- ------------------------------------------------------------------ the frame against the real one -/

def WfP (l : Env) : Path → Prop
  | [] => True
  | (t, _) :: r => (∃ b, lookL l t = some (r, .bool b)) ∧ WfP l r

structure Inv (n : Nat) (l : Env) (g : Env0) (D : List Path) (a : Act) : Prop where
  size : a.tmps.size = n
  agL : ∀ t p v, (t, p, v) ∈ l → (cond l p = true → a.tmps[t]? = some v) ∧ (cond l p = false → a.tmps[t]? = some undef)
  agG : ∀ t v, lookG g t = some v → lookL l t = none → a.tmps[t]? = some v
  wf : ∀ t p v, (t, p, v) ∈ l → WfP l p
  dead : ∀ p ∈ D, cond l p = false
  deadWf : ∀ p ∈ D, WfP l p

theorem lookL_mem : ∀ {l : Env} {t : Nat} {p : Path} {v : Value}, lookL l t = some (p, v) → (t, p, v) ∈ l
  | [], _, _, _, h => by simp [lookL] at h
  | (u, q, x) :: l, t, p, v, h => by
    simp only [lookL] at h
    cases hb : Nat.beq u t with
    | true =>
      simp only [hb, Option.some.injEq, Prod.mk.injEq] at h
      obtain ⟨rfl, rfl⟩ := h
      rw [Nat.eq_of_beq_eq_true hb]; exact List.mem_cons_self
    | false =>
      simp only [hb] at h
      exact List.mem_cons_of_mem _ (lookL_mem h)

theorem noKey_spec : ∀ {l : Env} {d : Nat}, noKey l d = true → lookL l d = none ∧ ∀ t p v, (t, p, v) ∈ l → t ≠ d
  | [], _, _ => ⟨rfl, fun _ _ _ h => by cases h⟩
  | (u, q, x) :: l, d, h => by
    simp only [noKey] at h
    cases hb : Nat.beq u d with
    | true => simp [hb] at h
    | false =>
      simp only [hb] at h
      obtain ⟨h1, h2⟩ := noKey_spec h
      refine ⟨by simp only [lookL, hb]; exact h1, fun t p v hm => ?_⟩
      rcases List.mem_cons.1 hm with he | he
      · cases he; exact Nat.ne_of_beq_eq_false hb
      · exact h2 _ _ _ he

theorem lookL_cons_ne {l : Env} {d t : Nat} {p : Path} {v : Value} (h : d ≠ t) : lookL ((d, p, v) :: l) t = lookL l t := by
  simp only [lookL]
  cases hb : Nat.beq d t with
  | true => exact absurd (Nat.eq_of_beq_eq_true hb) h
  | false => rfl
theorem lookL_cons_eq {l : Env} {d : Nat} {p : Path} {v : Value} : lookL ((d, p, v) :: l) d = some (p, v) := by
  simp [lookL]

theorem WfP.fresh {l : Env} {d : Nat} {q : Path} {v : Value} (hd : lookL l d = none) : ∀ {p : Path}, WfP l p → WfP ((d, q, v) :: l) p
  | [], _ => trivial
  | (t, w) :: r, ⟨⟨b, hb⟩, h⟩ => ⟨⟨b, by
      rw [lookL_cons_ne (fun e => by subst e; rw [hd] at hb; cases hb)]; exact hb⟩, h.fresh hd⟩

theorem cond_congr {l l' : Env} : ∀ {p : Path}, (∀ t w, (t, w) ∈ p → bval l' t = bval l t) → cond l' p = cond l p
  | [], _ => rfl
  | (t, w) :: r, h => by
    rw [cond_cons, cond_cons, h t w List.mem_cons_self, cond_congr (fun s w hm => h s w (List.mem_cons_of_mem _ hm))]

theorem WfP.keys {l : Env} : ∀ {p : Path}, WfP l p → ∀ t w, (t, w) ∈ p → ∃ r b, lookL l t = some (r, .bool b)
  | [], _, _, _, h => by cases h
  | (s, x) :: r, ⟨⟨b, hb⟩, h⟩, t, w, hm => by
    rcases List.mem_cons.1 hm with he | he
    · cases he; exact ⟨_, _, hb⟩
    · exact h.keys t w he

theorem cond_fresh {l : Env} {d : Nat} {q : Path} {v : Value} (hd : lookL l d = none) {p : Path} (h : WfP l p) : cond ((d, q, v) :: l) p = cond l p :=
  cond_congr fun t w hm => by
    obtain ⟨r, b, hk⟩ := h.keys t w hm
    unfold bval
    rw [lookL_cons_ne (fun e => by subst e; rw [hd] at hk; cases hk)]

theorem Inv.wr {n : Nat} {l : Env} {g : Env0} {D : List Path} {a : Act} {d : Nat} {p : Path} {v u : Value} (hi : Inv n l g D a) (hlt : d < n)
    (hd : noKey l d = true) (hp : WfP l p) (h1 : cond l p = true → u = v) (h2 : cond l p = false → u = undef) : Inv n ((d, p, v) :: l) g D (a.put (some d) u) := by
  obtain ⟨hn, hne⟩ := noKey_spec hd
  have hsz : d < a.tmps.size := by rw [hi.size]; exact hlt
  have same : ∀ t, t ≠ d → (a.put (some d) u).tmps[t]? = a.tmps[t]? := fun t ht => by
    simp [Act.put, Array.getElem?_setIfInBounds_ne (Ne.symm ht)]
  have here : (a.put (some d) u).tmps[d]? = some u := by simp [Act.put, hsz]
  refine ⟨by simp [Act.put, hi.size], fun t q x hm => ?_, fun t x hg hl => ?_, fun t q x hm => ?_, fun q hq => ?_, fun q hq => (hi.deadWf q hq).fresh hn⟩
  · rcases List.mem_cons.1 hm with he | he
    · cases he
      rw [cond_fresh hn hp, here]
      exact ⟨fun h => by rw [h1 h], fun h => by rw [h2 h]⟩
    · rw [cond_fresh hn (hi.wf _ _ _ he), same t (hne _ _ _ he)]
      exact hi.agL t q x he
  · by_cases ht : t = d
    · subst ht; rw [lookL_cons_eq] at hl; cases hl
    · rw [lookL_cons_ne (Ne.symm ht)] at hl
      rw [same t ht]; exact hi.agG t x hg hl
  · rcases List.mem_cons.1 hm with he | he
    · cases he; exact hp.fresh hn
    · exact (hi.wf _ _ _ he).fresh hn
  · rw [cond_fresh hn (hi.deadWf q hq)]; exact hi.dead q hq

theorem wr_sound {n : Nat} {l : Env} {g : Env0} {D : List Path} {a : Act} {dst : Option Tmp} {p : Path} {v u : Value} {K : Env → Prop} (hi : Inv n l g D a)
    (hp : WfP l p) (h1 : cond l p = true → u = v) (h2 : cond l p = false → u = undef) (h : wr n l p dst v K) : ∃ l', Inv n l' g D (a.put dst u) ∧ K l' := by
  unfold wr at h
  cases dst with
  | none => exact ⟨l, hi, h⟩
  | some d =>
    simp only at h
    cases hb : Nat.blt d n && noKey l d with
    | false => simp [hb] at h
    | true =>
      simp only [hb] at h
      simp only [Bool.and_eq_true, Nat.blt_eq] at hb
      exact ⟨_, hi.wr hb.1 hb.2 hp h1 h2, h⟩

theorem isDead_spec {l : Env} : ∀ {D : List Path} {p : Path}, isDead D p = true → (∀ q ∈ D, cond l q = false) → cond l p = false
  | [], _, h, _ => by simp [isDead] at h
  | q :: D, p, h, hD => by
    simp only [isDead, Bool.or_eq_true] at h
    rcases h with h | h
    · cases hc : cond l p with
      | false => rfl
      | true => rw [← hD q List.mem_cons_self]; exact (sub_cond h hc).symm
    · exact isDead_spec h fun q hq => hD q (List.mem_cons_of_mem _ hq)

theorem wanted_iff {n : Nat} {ops : Array Oper} {l : Env} {g : Env0} {D : List Path} {a : Act} {o : Oper} {p : Path} (hi : Inv n l g D a) (hp : pathOf ops l D o = some p) :
    Region.wanted o (yielded ops a.tmps) = cond l p ∧ WfP l p := by
  unfold pathOf at hp
  cases hg : o.guard with
  | none =>
    simp only [hg, Option.some.injEq] at hp
    subst hp
    exact ⟨by simp [Region.wanted, hg, cond], trivial⟩
  | some jw =>
    obtain ⟨j, w⟩ := jw
    simp only [hg] at hp
    cases ht : (ops[j]?).bind (·.dst) with
    | none => simp [ht] at hp
    | some t =>
      simp only [ht] at hp
      have hy : yielded ops a.tmps j = (a.tmps[t]?).bind fun v => match v with | .bool b => some b | _ => none := by
        unfold yielded; rw [ht]
        simp only [Option.bind_some]
        cases a.tmps[t]? with
        | none => rfl
        | some v => cases v <;> rfl
      cases hl : lookL l t with
      | none => simp [hl] at hp
      | some x =>
        obtain ⟨r, v⟩ := x
        have hm := lookL_mem hl
        by_cases hbv : ∃ b, v = .bool b
        · obtain ⟨b, rfl⟩ := hbv
          simp only [hl, Option.some.injEq] at hp
          subst hp
          refine ⟨?_, ⟨b, hl⟩, hi.wf _ _ _ hm⟩
          have hb : bval l t = b := by simp [bval, hl]
          rw [cond_cons, hb]
          simp only [Region.wanted, hg, hy]
          cases hc : cond l r with
          | true =>
            rw [(hi.agL _ _ _ hm).1 hc]
            cases b <;> cases w <;> rfl
          | false =>
            rw [(hi.agL _ _ _ hm).2 hc]
            cases b <;> cases w <;> rfl
        · have hdr : isDead D r = true ∧ r = p := by
            cases hd : isDead D r with
            | true => cases v <;> simp_all
            | false => cases v <;> simp_all
          obtain ⟨hd, rfl⟩ := hdr
          have hc : cond l r = false := isDead_spec hd hi.dead
          refine ⟨?_, hi.wf _ _ _ hm⟩
          simp only [Region.wanted, hg, hy]
          rw [(hi.agL _ _ _ hm).2 hc, hc]
          cases w <;> rfl

/- operands -/
theorem look_act {n : Nat} {l : Env} {g : Env0} {D : List Path} {a : Act} (hi : Inv n l g D a) {t : Nat} {q : Path} {v : Value} (h : look l g t = some (q, v))
    (hc : cond l q = true) : a.tmps[t]? = some v := by
  unfold look at h
  cases hl : lookL l t with
  | some x =>
    simp only [hl, Option.some.injEq] at h
    subst h
    exact (hi.agL _ _ _ (lookL_mem hl)).1 hc
  | none =>
    simp only [hl] at h
    cases hg : lookG g t with
    | none => simp [hg] at h
    | some x =>
      simp only [hg, Option.some.injEq, Prod.mk.injEq] at h
      obtain ⟨rfl, rfl⟩ := h
      exact hi.agG t _ hg hl

theorem eval_val {n : Nat} {l : Env} {g : Env0} {D : List Path} {a : Act} (hi : Inv n l g D a) {p : Path} {x : Operand} (hok : okIn l g p x = true) (hc : cond l p = true) :
    a.eval x = val l g x := by
  cases x with
  | tmp t =>
    simp only [okIn] at hok
    cases hl : look l g t with
    | none => simp [hl] at hok
    | some y =>
      obtain ⟨q, v⟩ := y
      simp only [hl] at hok
      have := look_act hi hl (sub_cond hok hc)
      simp [Act.eval, val, hl, this]
  | _ => rfl

theorem withRho_sound {l : Env} {g : Env0} {p : Path} : ∀ {xs : List Operand} {K : Env0 → Prop}, withRho l g p xs K →
    ∃ e, K e ∧ (∀ t, .tmp t ∈ xs → ∃ v, lookG e t = some v) ∧ ∀ t v, lookG e t = some v → ∃ q, look l g t = some (q, v) ∧ sub q p = true
  | [], K, h => ⟨[], h, fun _ h => (by cases h), fun _ _ h => (by simp [lookG] at h)⟩
  | x :: xs, K, h => by
    cases x with
    | tmp t =>
      simp only [withRho] at h
      cases hl : look l g t with
      | none => simp [hl] at h
      | some y =>
        obtain ⟨q, v⟩ := y
        simp only [hl] at h
        cases hs : sub q p with
        | false => simp [hs] at h
        | true =>
          simp only [hs] at h
          obtain ⟨e, hk, h1, h2⟩ := withRho_sound h
          refine ⟨_, hk, fun s hm => ?_, fun s u hu => ?_⟩
          · simp only [lookG]
            cases hb : Nat.beq t s with
            | true => exact ⟨v, rfl⟩
            | false =>
              rcases List.mem_cons.1 hm with he | he
              · cases he; simp at hb
              · exact h1 s he
          · simp only [lookG] at hu
            cases hb : Nat.beq t s with
            | true =>
              simp only [hb, Option.some.injEq] at hu
              rw [← Nat.eq_of_beq_eq_true hb, ← hu]; exact ⟨q, hl, hs⟩
            | false => simp only [hb] at hu; exact h2 s u hu
    | _ =>
      simp only [withRho] at h
      obtain ⟨e, hk, h1, h2⟩ := withRho_sound h
      exact ⟨e, hk, fun s hm => h1 s (by simpa using hm), h2⟩

theorem exec_val {n : Nat} {l : Env} {g e : Env0} {D : List Path} {a : Act} (hi : Inv n l g D a) {p : Path} {o : Oper} (hs : ∀ cs b, o.op ≠ .select cs b)
    (h1 : ∀ t, .tmp t ∈ o.op.operands.toList → ∃ v, lookG e t = some v) (h2 : ∀ t v, lookG e t = some v → ∃ q, look l g t = some (q, v) ∧ sub q p = true)
    (hc : cond l p = true) : execOp a.eval o = execOp (val [] e) o :=
  execOp_congr o hs fun x hx => by
    cases x with
    | tmp t =>
      obtain ⟨v, hv⟩ := h1 t (by simpa using hx)
      obtain ⟨q, hq, hsub⟩ := h2 t v hv
      have := look_act hi hq (sub_cond hsub hc)
      simp [Act.eval, val, look, lookL, hv, this]
    | _ => rfl

theorem moveK_sound {P : Program} {n : Nat} {l : Env} {g : Env0} {D : List Path} {a : Act} (hi : Inv n l g D a) {p : Path} {o : Oper} {x : Operand} {K : Value → Prop}
    (ho : o.op = .move x ∨ o.op = .assign x) (h : moveK l g p x K) : ∃ v, (cond l p = true → PureAll P o a.eval v) ∧ K v := by
  have run : ∀ v, a.eval x = v → PureAll P o a.eval v := fun v hv w => by
    rcases ho with ho | ho <;> simp [execOp, ho, hv]
  cases x with
  | tmp t =>
    simp only [moveK] at h
    cases hl : look l g t with
    | none => simp [hl] at h
    | some y =>
      obtain ⟨q, v⟩ := y
      simp only [hl] at h
      cases hs : sub q p with
      | false => simp [hs] at h
      | true =>
        simp only [hs] at h
        exact ⟨v, fun hc => run v (by
          have := look_act hi hl (sub_cond hs hc)
          simp [Act.eval, this]), h⟩
  | const v => exact ⟨v, fun _ => run v rfl, h⟩
  | global gg => exact ⟨_, fun _ => run _ rfl, h⟩
  | func f => exact ⟨_, fun _ => run _ rfl, h⟩

/- shadows: a guard's value as a literal -/
def Ext (l l' : Env) : Prop := (∀ s, bval l' s = bval l s) ∧ ∀ q, WfP l q → WfP l' q
theorem Ext.refl (l : Env) : Ext l l := ⟨fun _ => rfl, fun _ h => h⟩
theorem Ext.trans {a b c : Env} (h : Ext a b) (k : Ext b c) : Ext a c := ⟨fun s => (k.1 s).trans (h.1 s), fun q hq => k.2 q (h.2 q hq)⟩
theorem Ext.cond {l l' : Env} (h : Ext l l') (p : Path) : Vc.cond l' p = Vc.cond l p := cond_congr fun t _ _ => h.1 t

theorem shadow {n : Nat} {l : Env} {g : Env0} {D : List Path} {a : Act} {t : Nat} {r : Path} {b : Bool} (hi : Inv n l g D a) (hl : lookL l t = some (r, .bool b)) :
    Ext l ((t, r, .bool b) :: l) ∧ Inv n ((t, r, .bool b) :: l) g D a := by
  have hlook : ∀ s, lookL ((t, r, .bool b) :: l) s = lookL l s := fun s => by
    by_cases hs : t = s
    · subst hs; rw [lookL_cons_eq, hl]
    · exact lookL_cons_ne hs
  have hext : Ext l ((t, r, .bool b) :: l) := by
    refine ⟨fun s => by simp only [bval, hlook], fun q => ?_⟩
    induction q with
    | nil => exact fun _ => trivial
    | cons x q ih => exact fun ⟨⟨c, hc⟩, h⟩ => ⟨⟨c, by rw [hlook]; exact hc⟩, ih h⟩
  refine ⟨hext, hi.size, fun s q v hm => ?_, fun s v hg hn => hi.agG s v hg (by rw [hlook] at hn; exact hn), fun s q v hm => ?_, fun q hq => ?_, fun q hq => hext.2 _ (hi.deadWf q hq)⟩
  · rw [hext.cond]
    rcases List.mem_cons.1 hm with he | he
    · cases he; exact hi.agL _ _ _ (lookL_mem hl)
    · exact hi.agL _ _ _ he
  · rcases List.mem_cons.1 hm with he | he
    · cases he; exact hext.2 _ (hi.wf _ _ _ (lookL_mem hl))
    · exact hext.2 _ (hi.wf _ _ _ he)
  · rw [hext.cond]; exact hi.dead q hq

theorem Inv.kill {n : Nat} {l : Env} {g : Env0} {D : List Path} {a : Act} {p : Path} (hi : Inv n l g D a) (hp : cond l p = false) (hw : WfP l p) : Inv n l g (p :: D) a :=
  ⟨hi.size, hi.agL, hi.agG, hi.wf, fun q hq => (List.mem_cons.1 hq).elim (fun e => e ▸ hp) (hi.dead q),
    fun q hq => (List.mem_cons.1 hq).elim (fun e => e ▸ hw) (hi.deadWf q)⟩

theorem splitK_sound {n : Nat} {g : Env0} {a : Act} : ∀ {p : Path} {l : Env} {D : List Path} {A B : Env → List Path → Prop}, Inv n l g D a → WfP l p → splitK l D p A B →
    (cond l p = true ∧ ∃ l' D', Inv n l' g D' a ∧ Ext l l' ∧ A l' D') ∨ (cond l p = false ∧ ∃ l' D', Inv n l' g D' a ∧ Ext l l' ∧ B l' D')
  | [], l, D, A, B, hi, _, h => .inl ⟨rfl, l, D, hi, Ext.refl l, h⟩
  | (t, w) :: r, l, D, A, B, hi, ⟨⟨b, hb⟩, hw⟩, h => by
    simp only [splitK] at h
    rw [cond_cons]
    rcases splitK_sound hi hw h with ⟨hc, l', D', hi', he, hA⟩ | ⟨hc, l', D', hi', he, hB⟩
    · rw [hc, Bool.and_true, ← he.1 t]
      obtain ⟨⟨b', hb'⟩, hw'⟩ := he.2 ((t, w) :: r) ⟨⟨b, hb⟩, hw⟩
      have hbv : bval l' t = b' := by simp [bval, hb']
      rw [hbv] at hA ⊢
      obtain ⟨hex, hin⟩ := shadow hi' hb'
      have hw2 := hex.2 _ hw'
      have hlook2 : lookL ((t, r, .bool b') :: l') t = some (r, .bool b') := lookL_cons_eq
      have bv2 : bval ((t, r, .bool b') :: l') t = b' := by simp [bval, hlook2]
      cases hl : lit w b' with
      | true =>
        have hbw : b' = w := by cases w <;> cases b' <;> simp_all [lit]
        subst hbw
        refine .inl ⟨rfl, _, ((t, !b') :: r) :: D', hin.kill ?_ ⟨⟨b', hlook2⟩, hw2⟩, he.trans hex, (br_elim hA).1 hl⟩
        rw [cond_cons, bv2]; cases b' <;> rfl
      | false =>
        have hbw : (!w) = b' := by cases w <;> cases b' <;> simp_all [lit]
        subst hbw
        refine .inr ⟨rfl, _, ((t, w) :: r) :: D', hin.kill ?_ ⟨⟨!w, hlook2⟩, hw2⟩, he.trans hex, (br_elim hA).2 hl⟩
        rw [cond_cons, bv2, hl]; rfl
    · rw [hc, Bool.and_false]
      exact .inr ⟨rfl, l', D', hi', he, hB⟩

theorem pickK_sound {P : Program} {n : Nat} {l : Env} {g : Env0} {D : List Path} {act : Act} {p : Path} {o : Oper} {c a b : Operand} {K : Value → Prop} (hi : Inv n l g D act)
    (hop : o.op = .pick c a b) (h : pickK l g D p c a b K) : ∃ v, (cond l p = true → PureAll P o act.eval v) ∧ K v := by
  have run : ∀ x : Bool, act.eval c = .bool x → PureAll P o act.eval (if x then act.eval a else act.eval b) := fun x hx w => by
    simp [execOp, hop, hx, asBool]
  unfold pickK at h
  cases hokc : okIn l g p c with
  | false => simp [hokc] at h
  | true =>
    cases hoka : okPick l g p c true a with
    | false => simp [hokc, hoka] at h
    | true =>
      cases hokb : okPick l g p c false b with
      | false => simp [hokc, hoka, hokb] at h
      | true =>
        simp only [hokc, hoka, hokb] at h
        -- an operand on the way that is taken
        have arm : ∀ (w : Bool) (x : Operand), okPick l g p c w x = true → cond l p = true → act.eval c = .bool w → val l g c = .bool w → act.eval x = val l g x ∧ pickDead l D x = false := by
          intro w x hx hc he hv
          have key : okIn l g p x = true ∨ ∃ t, c = .tmp t ∧ cond l ((t, w) :: p) = true ∧ okIn l g ((t, w) :: p) x = true := by
            simp only [okPick, Bool.or_eq_true] at hx
            rcases hx with hx | hx
            · exact .inl hx
            · cases c with
              | tmp t =>
                simp only [Bool.and_eq_true] at hx
                refine .inr ⟨t, rfl, ?_, hx.2⟩
                cases hl : lookL l t with
                | none => simp [hl] at hx
                | some y =>
                  obtain ⟨q, v⟩ := y
                  simp only [val, look, hl] at hv
                  subst hv
                  rw [cond_cons, hc]
                  simp only [bval, hl]
                  cases w <;> rfl
              | _ => simp at hx
          have hev : act.eval x = val l g x := by
            rcases key with k | ⟨t, _, k1, k2⟩
            · exact eval_val hi k hc
            · exact eval_val hi k2 k1
          refine ⟨hev, ?_⟩
          cases hd : pickDead l D x with
          | false => rfl
          | true =>
            exfalso
            cases x with
            | tmp u =>
              simp only [pickDead] at hd
              cases hl : lookL l u with
              | none => simp [hl] at hd
              | some y =>
                obtain ⟨q, v⟩ := y
                simp only [hl] at hd
                have hq : cond l q = false := isDead_spec hd hi.dead
                have : cond l q = true := by
                  rcases key with k | ⟨t, _, k1, k2⟩
                  · simp only [okIn, look, hl] at k; exact sub_cond k hc
                  · simp only [okIn, look, hl] at k2; exact sub_cond k2 k1
                rw [hq] at this; cases this
            | _ => simp [pickDead] at hd
        have hcv : cond l p = true → act.eval c = val l g c := fun hc => eval_val hi hokc hc
        cases hda : pickDead l D a with
        | true =>
          simp only [hda] at h
          cases hvc : val l g c <;> simp only [hvc] at h <;> try exact h.elim
          case bool x =>
            cases x <;> (try simp only at h) <;> try exact h.elim
            cases hvb : val l g b <;> simp only [hvb] at h <;> try exact h.elim
            case bool z =>
              refine ⟨_, fun hc => ?_, h⟩
              have e1 : act.eval c = .bool false := (hcv hc).trans hvc
              have := run false e1
              rw [if_neg (by simp), (arm false b hokb hc e1 hvc).1, hvb] at this
              exact this
        | false =>
          cases hdb : pickDead l D b with
          | true =>
            simp only [hda, hdb] at h
            cases hvc : val l g c <;> simp only [hvc] at h <;> try exact h.elim
            case bool x =>
              cases x <;> (try simp only at h) <;> try exact h.elim
              cases hva : val l g a <;> simp only [hva] at h <;> try exact h.elim
              case bool y =>
                refine ⟨_, fun hc => ?_, h⟩
                have e1 : act.eval c = .bool true := (hcv hc).trans hvc
                have := run true e1
                rw [if_pos rfl, (arm true a hoka hc e1 hvc).1, hva] at this
                exact this
          | false =>
            simp only [hda, hdb] at h
            cases hvc : val l g c <;> simp only [hvc] at h <;> try exact h.elim
            case bool x =>
              cases hva : val l g a <;> simp only [hva] at h <;> try exact h.elim
              case bool y =>
                cases hvb : val l g b <;> simp only [hvb] at h <;> try exact h.elim
                case bool z =>
                  refine ⟨_, fun hc => ?_, h⟩
                  have e1 : act.eval c = .bool x := (hcv hc).trans hvc
                  have := run x e1
                  cases x with
                  | true => rw [if_pos rfl, (arm true a hoka hc e1 hvc).1, hva] at this; exact this
                  | false => rw [if_neg (by simp), (arm false b hokb hc e1 hvc).1, hvb] at this; exact this

def Fr (S : List Nat) (a0 a : Act) : Prop := (∀ t, t ∉ S → a.tmps[t]? = a0.tmps[t]?) ∧ a.defers = a0.defers
theorem Fr.refl (S : List Nat) (a : Act) : Fr S a a := ⟨fun _ _ => rfl, rfl⟩
theorem Fr.trans {S : List Nat} {a b c : Act} (h : Fr S a b) (k : Fr S b c) : Fr S a c := ⟨fun t ht => (k.1 t ht).trans (h.1 t ht), k.2.trans h.2⟩
theorem Fr.put {S : List Nat} {a0 a : Act} {dst : Option Tmp} (h : Fr S a0 a) (hd : ∀ d, dst = some d → d ∈ S) (u : Value) : Fr S a0 (a.put dst u) := by
  cases dst with
  | none => exact h
  | some d =>
    refine ⟨fun t ht => ?_, h.2⟩
    have : d ≠ t := fun e => ht (e ▸ hd d rfl)
    rw [← h.1 t ht]
    simp [Act.put, Array.getElem?_setIfInBounds_ne this]

theorem sreadK_sound {P : Program} {o : Oper} {ρ : Operand → Value} {iv : Option (Heap → Prop)} {c : Bool} {G : Prop → Prop} {K : Value → Prop}
    {st : List Nat} {ops : Array Oper} {k : Nat} (hst : stI st ops k = true) (hG : ∀ X, G X → (c = true → X)) (hh : sreadK P o ρ iv G K) : ∃ v, (c = true → PureAt P ((ivP iv st ops).pre k) o ρ v) ∧ K v := by
  cases iv with
  | none => exact hh.elim
  | some I =>
    simp only [sreadK] at hh
    cases hs : semR o ρ with
    | none => rw [hs] at hh; exact hh.elim
    | some s =>
      rw [hs] at hh
      simp only at hh
      obtain ⟨v, g, k⟩ := exSh_some hh
      refine ⟨v, fun hc w hI => ?_, k⟩
      have hr := (hG _ g hc w.heap (hI hst)).run w rfl
      have he : execOp ρ o = (do let x ← s; pure (Next.value x) : Sem Next) := by
        clear hh g k hr hG hc
        obtain ⟨dst, op, ty, pos, after, guard⟩ := o
        cases op <;> simp only [semR, Option.some.injEq, reduceCtorEq] at hs <;> try (subst hs; rfl)
        case call cl =>
          obtain ⟨callee, args, argTypes⟩ := cl
          cases callee <;> (try (simp [semR, semE] at hs; done))
          case builtin b =>
            cases b <;> simp only [semR, semE, Option.some.injEq, reduceCtorEq] at hs <;> (subst hs; rw [mapA_eq]; rfl)
      rw [he, Sem.run_bind, hr]; rfl

theorem andI_spec {iv : Option (Heap → Prop)} {st : List Nat} {ops : Array Oper} {k : Nat} {h : Heap} {X : Prop} (hh : andI iv (finB st ops k) h X) : (ivP iv st ops).post k h ∧ X := by
  cases iv with
  | none => exact ⟨trivial, hh⟩
  | some I =>
    simp only [andI] at hh
    cases hf : finB st ops k with
    | false => rw [hf] at hh; exact ⟨fun _ => hh.1, hh.2⟩
    | true => rw [hf] at hh; exact ⟨fun h => (by rw [hf] at h; cases h), hh⟩

/-- what a region carries. -/
def carH (I : Heap → Prop) (st : List Nat) (ops : Array Oper) (listed : Array Bool) (h : Heap) : Prop := (∃ i, listed.getD i true = false ∧ stI st ops i = true) → I h
theorem car_ivP {I : Heap → Prop} {st : List Nat} {ops : Array Oper} {cl : Oper → Cls} : Car (ivP (some I) st ops) cl .any ops (carH I st ops) where
  pre := fun listed h i o _ hu hH hs => hH ⟨i, hu, hs⟩
  mono := fun listed h i hH ⟨k, hk, hs⟩ => hH ⟨k, by
    by_cases e : i = k
    · subst e
      by_cases hi : i < listed.size
      · simp [hi] at hk
      · simp [hi] at hk
    · rw [getD_set_ne true e] at hk; exact hk, hs⟩
  post := fun listed h i o ho he hr hc hp ⟨k, hk, hs⟩ => by
    cases hf : finB st ops i with
    | false => exact hp hf
    | true =>
      exfalso
      have hne : i ≠ k := fun e => by
        subst e
        by_cases hi : i < listed.size
        · simp [hi] at hk
        · simp [hi] at hk
      rw [getD_set_ne true hne] at hk
      have hk2 := getD_true_false hk
      have hkr : k < ops.size := by
        unfold stI at hs
        cases hk3 : ops[k]? with
        | none => rw [hk3] at hs; cases hs
        | some _ => exact (Array.getElem?_eq_some_iff.1 hk3).1
      unfold finB at hf
      rw [List.all_eq_true] at hf
      have := hf k (List.mem_range.2 hkr)
      rw [hs] at this
      exact dep_not_ready hc hk2 this hr

theorem cvK_sound {P : Program} {o : Oper} {ρ : Operand → Value} {h : Heap} {K : Value → Prop} (hh : cvK P o ρ h K) : EffAt P o ρ h fun v h' => h' = h ∧ K v := by
  unfold cvK at hh
  split at hh
  · rename_i s d x hop
    obtain ⟨v, hr, hk⟩ := exSh_some hh
    intro w hw
    have he : execOp ρ o = (do let x ← convert s d (ρ x); pure (Next.value x) : Sem Next) := by simp only [execOp, hop]
    rw [he, Sem.run_bind, hr.run w hw]
    exact ⟨Sane.refl w, hw, hk⟩
  · exact hh.elim

theorem vcOps_sound {P : Program} {iv : Option (Heap → Prop)} {st : List Nat} {n : Nat} {ops : Array Oper} {g : Env0} {S : List Nat} {a0 : Act} {Q : Act → Heap → Prop} {K : Env → Heap → Prop}
    (hS : ∀ o ∈ ops.toList, ∀ d, o.dst = some d → d ∈ S) (hQ : ∀ l D a h, Inv n l g D a → Fr S a0 a → K l h → Q a h) :
    ∀ (rest : Tr) (l : Env) (D : List Path) (a : Act) (h : Heap), Inv n l g D a → Fr S a0 a →
      vcOps P iv st n ops g rest l D h K → vTree P (ivP iv st ops) (clsS P st) ops Q rest a h
  | .nil, l, D, a, h, hi, hf, hh => hQ l D a h hi hf hh
  | .fork t u, l, D, a, h, hi, hf, hh => ⟨vcOps_sound hS hQ t l D a h hi hf hh.1, vcOps_sound hS hQ u l D a h hi hf hh.2⟩
  | .cons k rest, l, D, a, h, hi, hf, hh => by
    simp only [vcOps] at hh
    simp only [vTree, vOp]
    cases h0 : ops[k]? with
    | none => rw [h0] at hh; exact hh.elim
    | some o =>
    simp only [h0] at hh
    simp only
    have hmem : o ∈ ops.toList := by
      rw [← Array.getElem?_toList] at h0; exact List.mem_of_getElem? h0
    have next : ∀ (D : List Path) (u : Value) (a : Act) (h : Heap), Fr S a0 a → (∃ l', Inv n l' g D (a.put o.dst u) ∧ vcOps P iv st n ops g rest l' D h K) →
        vTree P (ivP iv st ops) (clsS P st) ops Q rest (a.put o.dst u) h :=
      fun D u a h hf ⟨l', hi', hv⟩ => vcOps_sound hS hQ rest l' D _ h hi' (hf.put (hS o hmem) u) hv
    cases hp : pathOf ops l D o with
    | none => simp [hp] at hh
    | some p =>
      obtain ⟨hwant, hwf⟩ := wanted_iff hi hp
      simp only [hp] at hh
      rw [hwant]
      cases hdead : isDead D p with
      | true =>
        simp only [hdead] at hh
        have hc : cond l p = false := isDead_spec hdead hi.dead
        rw [hc]; simp only [Bool.false_eq_true, if_false]
        exact next D undef a h hf (wr_sound hi hwf (fun h => absurd (hc.symm.trans h) (by decide)) (fun _ => rfl) hh)
      | false =>
        simp only [hdead] at hh
        have look : ∀ v, (cond l p = true → vO P ((ivP iv st ops).pre k) ((ivP iv st ops).post k) (clsS P st o) o a h (vTree P (ivP iv st ops) (clsS P st) ops Q rest) ∨ False) →
            (cond l p = false → wr n l p o.dst v fun l => vcOps P iv st n ops g rest l D h K) →
            (if cond l p = true then vO P ((ivP iv st ops).pre k) ((ivP iv st ops).post k) (clsS P st o) o a h (vTree P (ivP iv st ops) (clsS P st) ops Q rest) else
              vTree P (ivP iv st ops) (clsS P st) ops Q rest (a.put o.dst undef) h) := by
          intro v h1 h2
          cases hc : cond l p with
          | true => simp only [if_true]; exact (h1 hc).resolve_right id
          | false =>
            simp only [Bool.false_eq_true, if_false]
            exact next D undef a h hf (wr_sound hi hwf (fun h => absurd (hc.symm.trans h) (by decide)) (fun _ => rfl) (h2 hc))
        have whenOk : ∀ v, (cond l p = true → vO P ((ivP iv st ops).pre k) ((ivP iv st ops).post k) (clsS P st o) o a h (fun a' h' => a' = a.put o.dst v ∧ h' = h)) →
            (wr n l p o.dst v fun l => vcOps P iv st n ops g rest l D h K) →
            (if cond l p = true then vO P ((ivP iv st ops).pre k) ((ivP iv st ops).post k) (clsS P st o) o a h (vTree P (ivP iv st ops) (clsS P st) ops Q rest) else
              vTree P (ivP iv st ops) (clsS P st) ops Q rest (a.put o.dst undef) h) := by
          intro v h1 hw
          refine look v (fun hc => .inl (vO_mono (X := fun _ => True) trivial (fun _ _ _ => trivial) (fun a' h' _ ⟨e1, e2⟩ => ?_) (h1 hc))) (fun _ => hw)
          subst e1; subst e2
          exact next D v a h' hf (wr_sound hi hwf (fun _ => rfl) (fun h => absurd (hc.symm.trans h) (by decide)) hw)
        obtain ⟨dst, op, ty, pos, after, guard⟩ := o
        have pureC : ∀ {o : Oper}, clsOf P o = .pure → clsS P st o = .pure := fun h => by simp [clsS, h]
        by_cases hpick : ∃ c x y, op = .pick c x y
        · obtain ⟨c, x, y, rfl⟩ := hpick
          simp only at hh
          obtain ⟨v, hv, hw⟩ := pickK_sound (P := P) (o := ⟨dst, .pick c x y, ty, pos, after, guard⟩) hi rfl hh
          exact whenOk v (fun hc => by rw [pureC rfl]; exact ⟨v, (hv hc).at, rfl, rfl⟩) hw
        by_cases hmove : ∃ x, op = .move x
        · obtain ⟨x, rfl⟩ := hmove
          simp only at hh
          obtain ⟨v, hv, hw⟩ := moveK_sound (P := P) (o := ⟨dst, .move x, ty, pos, after, guard⟩) hi (.inl rfl) hh
          exact whenOk v (fun hc => by rw [pureC rfl]; exact ⟨v, (hv hc).at, rfl, rfl⟩) hw
        by_cases hass : ∃ x, op = .assign x
        · obtain ⟨x, rfl⟩ := hass
          simp only at hh
          obtain ⟨v, hv, hw⟩ := moveK_sound (P := P) (o := ⟨dst, .assign x, ty, pos, after, guard⟩) hi (.inr rfl) hh
          exact whenOk v (fun hc => by rw [pureC rfl]; exact ⟨v, (hv hc).at, rfl, rfl⟩) hw
        · have hh2 : (match clsOf P ⟨dst, op, ty, pos, after, guard⟩ with
            | .pure => withRho l g p op.operands.toList fun e => pureK P ⟨dst, op, ty, pos, after, guard⟩ (val [] e) (gd l p) fun v => wr n l p dst v fun l => vcOps P iv st n ops g rest l D h K
            | .read => match isSt st ⟨dst, op, ty, pos, after, guard⟩ with
              | false => withRho l g p op.operands.toList fun e => readK P (shR P ops ⟨dst, op, ty, pos, after, guard⟩) ⟨dst, op, ty, pos, after, guard⟩ (val [] e) h (gd l p) fun v => wr n l p dst v fun l => vcOps P iv st n ops g rest l D h K
              | true => match isCv ⟨dst, op, ty, pos, after, guard⟩ with
                | true => splitK l D p
                  (fun l D => withRho l g p op.operands.toList fun e => cvK P ⟨dst, op, ty, pos, after, guard⟩ (val [] e) h fun v => andI iv (finB st ops k) h (wr n l p dst v fun l => vcOps P iv st n ops g rest l D h K))
                  (fun l D => wr n l p dst undef fun l => vcOps P iv st n ops g rest l D h K)
                | false => withRho l g p op.operands.toList fun e => sreadK P ⟨dst, op, ty, pos, after, guard⟩ (val [] e) iv (gd l p) fun v => wr n l p dst v fun l => vcOps P iv st n ops g rest l D h K
            | .eff => splitK l D p
              (fun l D => withRho l g p op.operands.toList fun e => effK P ⟨dst, op, ty, pos, after, guard⟩ (val [] e) h fun v h => andI iv (finB st ops k) h (wr n l p dst v fun l => vcOps P iv st n ops g rest l D h K))
              (fun l D => wr n l p dst undef fun l => vcOps P iv st n ops g rest l D h K)) := by
            cases op <;> first | exact hh | exact absurd ⟨_, _, _, rfl⟩ hpick | exact absurd ⟨_, rfl⟩ hmove | exact absurd ⟨_, rfl⟩ hass
          clear hh
          cases hcl : clsOf P ⟨dst, op, ty, pos, after, guard⟩ with
          | pure =>
            have hcS := pureC hcl
            simp only [hcl] at hh2
            simp only [hcS] at look whenOk ⊢
            obtain ⟨e, hk, h1, h2⟩ := withRho_sound hh2
            obtain ⟨v, hv, hw⟩ := pureK_sound (c := cond l p) (fun X hX => gd_spec hX) hk
            refine whenOk v (fun hc => ⟨v, ?_, rfl, rfl⟩) hw
            have hsel : ∀ cs b, op ≠ .select cs b := fun cs b e => by subst e; simp [clsOf] at hcl
            intro w _
            rw [exec_val hi hsel h1 h2 hc]; exact hv hc w
          | read =>
            have hsel : ∀ cs b, op ≠ .select cs b := fun cs b e => by subst e; simp [clsOf] at hcl
            cases hst : isSt st ⟨dst, op, ty, pos, after, guard⟩ with
            | false =>
              have hcS : clsS P st ⟨dst, op, ty, pos, after, guard⟩ = .read := by simp [clsS, hcl, hst]
              simp only [hcl, hst] at hh2
              simp only [hcS] at look whenOk ⊢
              obtain ⟨e, hk, h1, h2⟩ := withRho_sound hh2
              obtain ⟨v, hv, hw⟩ := readK_sound (c := cond l p) (fun X hX => gd_spec hX) hk
              refine whenOk v (fun hc => ⟨v, ?_, rfl, rfl⟩) hw
              intro w hw
              rw [exec_val hi hsel h1 h2 hc]; exact hv hc w hw
            | true =>
             cases hcv : isCv ⟨dst, op, ty, pos, after, guard⟩ with
             | true =>
              have hcS : clsS P st ⟨dst, op, ty, pos, after, guard⟩ = .eff := by simp [clsS, hcl, hst, hcv]
              simp only [hcl, hst, hcv] at hh2
              simp only [hcS]
              rcases splitK_sound hi hwf hh2 with ⟨hc, l', D', hi', he, hA⟩ | ⟨hc, l', D', hi', he, hB⟩
              · rw [hc]; simp only [if_true]
                obtain ⟨e, hk, h1, h2⟩ := withRho_sound hA
                have hc' : cond l' p = true := by rw [he.cond]; exact hc
                show EffAt P _ a.eval h _
                unfold EffAt
                rw [exec_val hi' hsel h1 h2 hc']
                refine (cvK_sound hk).mono fun v h' hw => ?_
                obtain ⟨rfl, hw⟩ := hw
                obtain ⟨hI', hw⟩ := andI_spec hw
                exact ⟨hI', next D' v a h' hf (wr_sound hi' (he.2 _ hwf) (fun _ => rfl) (fun h => absurd (hc'.symm.trans h) (by decide)) hw)⟩
              · rw [hc]; simp only [Bool.false_eq_true, if_false]
                have hc' : cond l' p = false := by rw [he.cond]; exact hc
                exact next D' undef a h hf (wr_sound hi' (he.2 _ hwf) (fun h => absurd (hc'.symm.trans h) (by decide)) (fun _ => rfl) hB)
             | false =>
              have hcS : clsS P st ⟨dst, op, ty, pos, after, guard⟩ = .pure := by simp [clsS, hcl, hst, hcv]
              simp only [hcl, hst, hcv] at hh2
              simp only [hcS] at look whenOk ⊢
              obtain ⟨e, hk, h1, h2⟩ := withRho_sound hh2
              obtain ⟨v, hv, hw⟩ := sreadK_sound (c := cond l p) (st := st) (ops := ops) (k := k) (by unfold stI; rw [h0]; exact hst) (fun X hX => gd_spec hX) hk
              refine whenOk v (fun hc => ⟨v, ?_, rfl, rfl⟩) hw
              intro w hw
              rw [exec_val hi hsel h1 h2 hc]; exact hv hc w hw
          | eff =>
            have hcS : clsS P st ⟨dst, op, ty, pos, after, guard⟩ = .eff := by simp [clsS, hcl]
            simp only [hcl] at hh2
            simp only [hcS]
            rcases splitK_sound hi hwf hh2 with ⟨hc, l', D', hi', he, hA⟩ | ⟨hc, l', D', hi', he, hB⟩
            · rw [hc]; simp only [if_true]
              obtain ⟨e, hk, h1, h2⟩ := withRho_sound hA
              have hsel : ∀ cs b, op ≠ .select cs b := fun cs b e => by
                subst e
                simp [effK, effK0, semE, semU] at hk
              have hc' : cond l' p = true := by rw [he.cond]; exact hc
              show EffAt P _ a.eval h _
              unfold EffAt
              rw [exec_val hi' hsel h1 h2 hc']
              refine (effK_sound hk).mono fun v h' hw => ?_
              obtain ⟨hI', hw⟩ := andI_spec hw
              exact ⟨hI', next D' v a h' hf (wr_sound hi' (he.2 _ hwf) (fun _ => rfl) (fun h => absurd (hc'.symm.trans h) (by decide)) hw)⟩
            · rw [hc]; simp only [Bool.false_eq_true, if_false]
              have hc' : cond l' p = false := by rw [he.cond]; exact hc
              exact next D' undef a h hf (wr_sound hi' (he.2 _ hwf) (fun h => absurd (hc'.symm.trans h) (by decide)) (fun _ => rfl) hB)
end Go.Vc
