/-
  The symbolic run of a region's operations is sound. Conditions: none.
-/
import Derived.Test.YtmdcfmhkfomoaaaGreatDoorVcB
set_option linter.unusedSimpArgs false
namespace Go.Vc
open Go

theorem run_szOf {P : Program} {t : TypeId} {n : Nat} (h : szOf P t = some n) (w : World) : (sizeOf t).run P w = .ok n w := by
  unfold szOf at h
  cases hi : P.info? t with
  | none => simp [hi] at h
  | some i => simp [hi] at h; subst h; simp [sizeOf, typeInfo, hi]

theorem Addr.add_zero (a : Addr) : a.add 0 = a := by simp [Addr.add]

theorem exS1_G {s : S1} {F K : Value → Prop} (h : exS1 s fun v => F v ∧ K v) : ∃ v, F v ∧ K v := exS1_some h

theorem partK_sound {P : Program} {t : TypeId} {cs : Array Value} {off : Nat} {big : Bool} {c : Bool} {G : Prop → Prop} {K : Value → Prop}
    (hG : ∀ X, G X → (c = true → X)) (h : partK P t cs off big G K) : ∃ v, (c = true → ∀ w, (part t cs off).run P w = .ok v w) ∧ K v := by
  unfold partK at h
  cases hs : szOf P t with
  | none => simp [hs] at h
  | some sz =>
    cases hu : P.underlying t with
    | none => simp [hs, hu] at h
    | some d =>
      cases ha : aggT P t with
      | true =>
        simp only [hs, ha, hu] at h
        have hag : ∀ w, (isAgg t).run P w = .ok true w := fun w => by
          unfold aggT at ha; rw [hu] at ha
          cases d <;> simp_all [isAgg, run_underlying hu]
        cases big with
        | true => exact ⟨_, fun _ w => by simp [part, hag, run_szOf hs], h⟩
        | false =>
          refine ⟨_, fun _ w => ?_, h⟩
          have : cs.extract off (off + sz) = ((cs.toList.drop off).take sz).toArray := by
            apply Array.toList_inj.1
            rw [Array.toList_extract, List.extract_eq_take_drop]
            congr 1; omega
          simp [part, hag, run_szOf hs, this]
      | false =>
        simp only [hs, ha, hu] at h
        have hag : ∀ w, (isAgg t).run P w = .ok false w := fun w => by
          unfold aggT at ha; rw [hu] at ha
          cases d <;> simp_all [isAgg, run_underlying hu]
        cases big with
        | true =>
          obtain ⟨v, hv, hk⟩ := exS1_some h
          refine ⟨v, fun hc w => ?_, hk⟩
          have := hG _ hv hc
          simp [part, hag, this]
        | false =>
          (try simp only at h)
          cases hx : cs.toList[off]? with
          | none => simp [hx] at h
          | some v =>
            simp only [hx] at h
            rw [Array.getElem?_toList] at hx
            exact ⟨v, fun _ w => by simp [part, hag, hx], h⟩

theorem bin_plain {P : Program} {op : BinOp} {t : TypeId} {x y : Operand} {a b : Value} {w : World} (ha : ∀ e, a ≠ .nilIface ∧ a ≠ .agg e) :
    (eqGuard op t x y a b).run P w = .ok () w := by
  cases op <;> first
    | rfl
    | (cases a <;> first
        | exact absurd rfl (ha #[]).1
        | exact absurd rfl (ha _).2
        | rfl)

theorem binK_sound {P : Program} {op : BinOp} {t : TypeId} {x y : Operand} {a b : Value} {c : Bool} {G : Prop → Prop} {K : Value → Prop}
    (hG : ∀ X, G X → (c = true → X)) (h : binK op a b G K) :
    ∃ v, (c = true → ∀ w, (do eqGuard op t x y a b; binOp op t a b : Sem Value).run P w = .ok v w) ∧ K v := by
  cases a with
  | int k a =>
    cases b with
    | int k' b =>
      have hg : ∀ w, (eqGuard op t x y (.int k a) (.int k' b)).run P w = .ok () w := fun w => bin_plain (fun _ => by simp)
      cases hek : eqKind k k' with
      | true =>
        obtain rfl := eqKind_eq hek
        cases op <;> simp only [binK, hek] at h
        case quo => obtain ⟨g, h⟩ := h; exact ⟨_, fun hc w => by have := hG _ g hc; simp [hg, binOp, Op.intDiv, this], h⟩
        case rem => obtain ⟨g, h⟩ := h; exact ⟨_, fun hc w => by have := hG _ g hc; simp [hg, binOp, Op.intDiv, this], h⟩
        case shl =>
          obtain ⟨g, h⟩ := h
          exact ⟨_, fun hc w => by
            have := hG _ g hc
            simp [hg, binOp, Op.shift, show ¬ b < 0 by omega], h⟩
        case shr =>
          obtain ⟨g, h⟩ := h
          exact ⟨_, fun hc w => by
            have := hG _ g hc
            simp [hg, binOp, Op.shift, show ¬ b < 0 by omega], h⟩
        all_goals exact ⟨_, fun hc w => by simp [hg, binOp, Op.intArith, Op.intBits, Op.intCmp], h⟩
      | false =>
        cases op <;> simp only [binK, hek] at h
        case shl =>
          obtain ⟨g, h⟩ := h
          exact ⟨_, fun hc w => by
            have := hG _ g hc
            simp [hg, binOp, Op.shift, show ¬ b < 0 by omega], h⟩
        case shr =>
          obtain ⟨g, h⟩ := h
          exact ⟨_, fun hc w => by
            have := hG _ g hc
            simp [hg, binOp, Op.shift, show ¬ b < 0 by omega], h⟩
    | _ => simp [binK] at h
  | string a =>
    cases b with
    | string b =>
      have hg : ∀ w, (eqGuard op t x y (.string a) (.string b)).run P w = .ok () w := fun w => bin_plain (fun _ => by simp)
      cases op <;> simp only [binK] at h
      case add =>
        obtain ⟨g, h⟩ := h
        exact ⟨_, fun hc w => by
          have := hG _ g hc
          simp only [Sem.run_bind, hg, Result.andThen_ok, binOp, Op.stringOp]
          rw [if_neg (by omega)]; simp, h⟩
      all_goals exact ⟨_, fun hc w => by simp [hg, binOp, Op.stringOp], h⟩
    | _ => simp [binK] at h
  | _ => simp [binK] at h

theorem sliceBounds_run {P : Program} {w : World} {isS : Bool} {n c : Nat} {lo hi mx : Option Value} {l h m : Int}
    (hl : lowOf lo = some l) (hh : highOf n hi = some h) (hm : highOf c mx = some m) (hb : 0 ≤ l ∧ l ≤ h ∧ h ≤ m ∧ m ≤ c)
    (hx : (mx.isSome && hi.isNone) = false) :
    (Instr.sliceBounds isS n c lo hi mx).run P w = .ok (l.toNat, h.toNat, m.toNat) w := by
  obtain ⟨b1, b2, b3, b4⟩ := hb
  have lows : lo = none ∧ l = 0 ∨ ∃ k, lo = some (.int k l) := by
    cases lo with
    | none => simp [lowOf] at hl; exact .inl ⟨rfl, hl.symm⟩
    | some v => cases v <;> simp [lowOf] at hl; subst hl; exact .inr ⟨_, rfl⟩
  have highs : hi = none ∧ h = n ∨ ∃ k, hi = some (.int k h) := by
    cases hi with
    | none => simp [highOf] at hh; exact .inl ⟨rfl, hh.symm⟩
    | some v => cases v <;> simp [highOf] at hh; subst hh; exact .inr ⟨_, rfl⟩
  have maxs : mx = none ∧ m = c ∨ ∃ k, mx = some (.int k m) := by
    cases mx with
    | none => simp [highOf] at hm; exact .inl ⟨rfl, hm.symm⟩
    | some v => cases v <;> simp [highOf] at hm; subst hm; exact .inr ⟨_, rfl⟩
  have sb : ∀ (k : IntKind) (i : Int) (y : Nat) (code : BoundsCode), 0 ≤ i → i ≤ y → (Instr.sliceBound (.int k i) y code).run P w = .ok i.toNat w :=
    fun k i y code h0 h1 => run_sliceBound w k i y code h0 h1
  rcases maxs with ⟨rfl, rfl⟩ | ⟨km, rfl⟩ <;> rcases highs with ⟨rfl, rfl⟩ | ⟨kh, rfl⟩ <;> rcases lows with ⟨rfl, rfl⟩ | ⟨kl, rfl⟩
  all_goals (try (simp at hx; done))
  all_goals simp only [Instr.sliceBounds, Sem.run_bind, Sem.run_pure, Result.andThen_ok, Int.toNat_natCast, Option.isSome_none, Option.isSome_some]
  all_goals (repeat (first
    | rw [sb _ _ _ _ (by omega) (by omega)]
    | simp only [Result.andThen_ok, Int.toNat_zero] | simp only [Sem.run_bind, Result.andThen_ok] | simp only [Sem.run_pure, Result.andThen_ok, Int.toNat_natCast]))

theorem sliceK_sound {P : Program} {t : TypeId} {x : Value} {lo hi mx : Option Value} {c : Bool} {G : Prop → Prop} {K : Value → Prop}
    (hG : ∀ X, G X → (c = true → X)) (h : sliceK P t x lo hi mx G K) : ∃ v, (c = true → ∀ w, (Instr.sliceAt t x lo hi mx).run P w = .ok v w) ∧ K v := by
  unfold sliceK at h
  cases hx : (mx.isSome && hi.isNone) with
  | true => simp [hx] at h
  | false =>
    simp only [hx] at h
    cases hu : P.underlying t with
    | none => simp [hu] at h
    | some d =>
      cases d <;> simp only [hu] at h <;> try exact h.elim
      case string =>
        cases x <;> (try simp only at h) <;> try exact h.elim
        case string s =>
          cases mx with
          | some _ => simp at h
          | none =>
            (try simp only at h)
            cases hl : lowOf lo with
            | none => simp [hl] at h
            | some l =>
              cases hh : highOf s.size hi with
              | none => simp [hl, hh] at h
              | some h' =>
                simp only [hl, hh] at h
                obtain ⟨g, k⟩ := h
                refine ⟨_, fun hc w => ?_, k⟩
                have b := hG _ g hc
                have := sliceBounds_run (P := P) (w := w) (isS := false) (n := s.size) (c := s.size) (mx := none) hl hh rfl ⟨b.1, b.2.1, b.2.2, by omega⟩ (by simp)
                simp [Instr.sliceAt, Instr.slice, run_underlying hu, this]
      case slice e =>
        cases x <;> (try simp only at h) <;> try exact h.elim
        case slice a n cp =>
          cases hs : szOf P e with
          | none => simp [hs] at h
          | some sz =>
            cases hl : lowOf lo with
            | none => simp [hs, hl] at h
            | some l =>
              cases hh : highOf n hi with
              | none => simp [hs, hl, hh] at h
              | some h' =>
                cases hm : highOf cp mx with
                | none => simp [hs, hl, hh, hm] at h
                | some m =>
                  cases lo with
                  | none =>
                    simp only [hs, hl, hh, hm] at h
                    obtain ⟨g, k⟩ := h
                    refine ⟨_, fun hc w => ?_, k⟩
                    have b := hG _ g hc
                    have l0 : l = 0 := by simp [lowOf] at hl; exact hl.symm
                    subst l0
                    have := sliceBounds_run (P := P) (w := w) (isS := true) (n := n) (c := cp) hl hh hm ⟨by omega, b.1, b.2.1, b.2.2⟩ hx
                    simp [Instr.sliceAt, Instr.slice, run_underlying hu, this, run_szOf hs]
                    intro _
                    cases a <;> simp [Addr.add_zero]
                  | some lv =>
                    simp only [hs, hl, hh, hm] at h
                    obtain ⟨g, k⟩ := h
                    refine ⟨_, fun hc w => ?_, k⟩
                    have b := hG _ g hc
                    have := sliceBounds_run (P := P) (w := w) (isS := true) (n := n) (c := cp) hl hh hm b hx
                    simp [Instr.sliceAt, Instr.slice, run_underlying hu, this, run_szOf hs, subA]
      case array n e =>
        cases x <;> (try simp only at h) <;> try exact h.elim
        case pointer a =>
          cases a with
          | none => simp at h
          | some a =>
            (try simp only at h)
            cases hs : szOf P e with
            | none => simp [hs] at h
            | some sz =>
              cases hl : lowOf lo with
              | none => simp [hs, hl] at h
              | some l =>
                cases hh : highOf n hi with
                | none => simp [hs, hl, hh] at h
                | some h' =>
                  cases hm : highOf n mx with
                  | none => simp [hs, hl, hh, hm] at h
                  | some m =>
                    simp only [hs, hl, hh, hm] at h
                    obtain ⟨g, k⟩ := h
                    refine ⟨_, fun hc w => ?_, k⟩
                    have b := hG _ g hc
                    have := sliceBounds_run (P := P) (w := w) (isS := false) (n := n) (c := n) hl hh hm b hx
                    simp [Instr.sliceAt, run_underlying hu, this, run_szOf hs, subA, Instr.sureAddr]
                    split <;> rfl

theorem putL_eq : ∀ (vs : List Value) (k off : Nat) (cells : Array Value),
    (vs.zipIdx k).foldl (fun cs (x : Value × Nat) => cs.setIfInBounds (off + x.2) x.1) cells = (putL cells.toList (off + k) vs).toArray
  | [], _, _, cells => by simp [putL]
  | v :: vs, k, off, cells => by
    rw [List.zipIdx_cons, List.foldl_cons, putL_eq vs (k + 1) off]
    simp only [putL, Array.toList_setIfInBounds]
    rfl
theorem fillL_eq {place place' : Nat → Option (Nat × Nat)} (hp : ∀ i, place i = place' i) : ∀ {parts : List (Nat × Value)} {cells : List Value} {cs : List Value}, fillL place cells parts = some cs →
    Instr.fill place' cells.toArray parts = some cs.toArray
  | [], _, _, h => by simp [fillL] at h; subst h; rfl
  | (i, v) :: rest, cells, cs, h => by
    simp only [fillL] at h
    unfold Instr.fill
    rw [← hp i]
    cases hpl : place i with
    | none => simp [hpl] at h
    | some x =>
      obtain ⟨off, size⟩ := x
      simp only [hpl] at h ⊢
      cases hb : Nat.beq v.cells.toList.length size && Nat.ble (off + v.cells.toList.length) cells.length with
      | false => rw [hb] at h; cases h
      | true =>
        rw [hb] at h
        simp only [Bool.and_eq_true] at hb
        have h1 : v.cells.size = size := by have := Nat.eq_of_beq_eq_true hb.1; simpa using this
        have h2 : off + v.cells.size ≤ cells.length := by have := Nat.le_of_ble_eq_true hb.2; simpa using this
        rw [if_neg (by simp [h1]; omega)]
        have := fillL_eq hp h
        rw [← Array.foldl_toList, Array.toList_zipIdx]
        have e := putL_eq v.cells.toList 0 off cells.toArray
        simp only [Nat.add_zero] at e
        rw [show (fun (cs : Array Value) (x : Value × Nat) => match x with | (c, j) => cs.setIfInBounds (off + j) c) = (fun cs (x : Value × Nat) => cs.setIfInBounds (off + x.2) x.1) from rfl, e]
        exact this
theorem placesOf_eq {P : Program} : ∀ {fs : List Field} {l : List (Nat × Nat)}, placesOf P fs = some l → fs.mapM (fun f => (P.info? f.type).map fun i => (f.offset, i.size)) = some l
  | [], l, h => by simp [placesOf] at h; subst h; rfl
  | f :: fs, l, h => by
    simp only [placesOf] at h
    cases hs : szOf P f.type with
    | none => simp [hs] at h
    | some n =>
      cases hp : placesOf P fs with
      | none => simp [hs, hp] at h
      | some l' =>
        simp only [hs, hp, Option.some.injEq] at h
        subst h
        unfold szOf at hs
        cases hi : P.info? f.type with
        | none => simp [hi] at hs
        | some i =>
          simp [hi] at hs
          rw [List.mapM_cons]
          simp [hi, hs, placesOf_eq hp]
theorem builtL_eq {P : Program} {t : TypeId} {parts : List (Nat × Value)} {cs : List Value} (h : builtL P t parts = some cs) : P.built t parts = some cs.toArray := by
  unfold builtL at h
  unfold Program.built
  cases hi : P.info? t with
  | none => simp [hi] at h
  | some it =>
    cases hz : it.zero with
    | none => simp [hi, hz] at h
    | some z =>
      cases hu : P.underlying t with
      | none => simp [hi, hz, hu] at h
      | some d =>
        cases d <;> simp [hi, hz, hu] at h
        case array n e =>
          cases hs : szOf P e with
          | none => simp [hs] at h
          | some sz =>
            simp only [hs] at h
            unfold szOf at hs
            cases hie : P.info? e with
            | none => simp [hie] at hs
            | some ie =>
              simp [hie] at hs
              subst hs
              simp only [hz, hie]
              have := fillL_eq (place' := fun i => some (i * ie.size, ie.size)) (fun i => rfl) h
              simpa using this
        case struct fs =>
          cases hp : placesOf P fs.toList with
          | none => simp [hp] at h
          | some pl =>
            simp only [hp] at h
            simp only [hz, placesOf_eq hp]
            have := fillL_eq (place' := fun i => pl.toArray[i]?) (fun i => by simp) h
            simpa using this
theorem partsL_eq (ρ : Operand → Value) : ∀ l : List (Nat × Operand), partsL ρ l = l.map fun (i, x) => (i, ρ x)
  | [] => rfl
  | (i, x) :: l => by simp [partsL, partsL_eq ρ l]
theorem partsL_arr (ρ : Operand → Value) (parts : Array (Nat × Operand)) : (parts.map fun (i, x) => (i, ρ x)) = (partsL ρ parts.toList).toArray := by
  rw [partsL_eq]; cases parts; simp

theorem pureK_sound {P : Program} {o : Oper} {ρ : Operand → Value} {c : Bool} {G : Prop → Prop} {K : Value → Prop}
    (hG : ∀ X, G X → (c = true → X)) (h : pureK P o ρ G K) : ∃ v, (c = true → PureAll P o ρ v) ∧ K v := by
  obtain ⟨dst, op, ty, pos, after, guard⟩ := o
  cases op <;> simp only [pureK] at h <;> try exact h.elim
  case move x => exact ⟨_, fun _ w => by simp [execOp], h⟩
  case assign x => exact ⟨_, fun _ w => by simp [execOp], h⟩
  case pick cc a b =>
    cases hc : ρ cc <;> simp only [hc] at h <;> try exact h.elim
    case bool x =>
      cases ha : ρ a <;> simp only [ha] at h <;> try exact h.elim
      case bool y =>
        cases hb : ρ b <;> simp only [hb] at h <;> try exact h.elim
        case bool z =>
          refine ⟨_, fun _ w => ?_, h⟩
          cases x <;> simp [execOp, hc, ha, hb, asBool]
  case nilCheck x =>
    cases hx : ρ x <;> simp only [hx] at h <;> try exact h.elim
    case pointer a =>
      obtain ⟨p, g, k⟩ := h
      exact ⟨_, fun hc w => by have := hG _ g hc; subst this; simp [execOp, hx], k⟩
    case func fn a b =>
      cases fn <;> (try simp only at h) <;> try exact h.elim
      exact ⟨_, fun _ w => by simp [execOp, hx], h⟩
    case iface t v => exact ⟨_, fun _ w => by simp [execOp, hx], h⟩
  case binOp op t x y yt =>
    obtain ⟨v, hv, k⟩ := binK_sound (P := P) (t := t) (x := x) (y := y) hG h
    exact ⟨v, fun hc w => by
      have := hv hc w
      simp only [execOp]
      rw [Sem.run_bind, this]; rfl, k⟩
  case unOp op t x =>
    cases op <;> cases hx : ρ x <;> simp only [hx] at h <;> try exact h.elim
    · exact ⟨_, fun _ w => by simp [execOp, hx, Op.unary, Op.intArith], h⟩
    · rename_i k n; exact ⟨_, fun _ w => by cases hk : k.signed <;> simp [execOp, hx, Op.unary, Op.intBits, hk], h⟩
    · exact ⟨_, fun _ w => by simp [execOp, hx, Op.unary], h⟩
  case convert s d x =>
    cases hs : P.underlying s with
    | none => simp [hs] at h
    | some ds =>
      cases hd : P.underlying d with
      | none => cases ds <;> simp [hs, hd] at h
      | some dd =>
        cases ds <;> cases dd <;> simp only [hs, hd] at h <;> try exact h.elim
        · cases hx : ρ x <;> simp only [hx] at h <;> try exact h.elim
          exact ⟨_, fun _ w => by simp [execOp, convert, run_underlying hs, run_underlying hd, hx, Conv.intToInt], h⟩
        · cases hx : ρ x <;> simp only [hx] at h <;> try exact h.elim
          exact ⟨_, fun _ w => by simp [execOp, convert, run_underlying hs, run_underlying hd, hx], h⟩
  case makeInterface t x =>
    cases ht : P.underlying t with
    | none => simp [ht] at h
    | some d =>
      cases d <;> simp only [ht] at h <;> try exact h.elim
      all_goals exact ⟨_, fun _ w => by simp [execOp, Instr.makeInterface, run_underlying ht], h⟩
  case makeFunc fn first captured => exact ⟨_, fun _ w => by simp [execOp, Instr.makeFunc, mapA_eq], h⟩
  case slice t x lo hi mx =>
    obtain ⟨v, hv, k⟩ := sliceK_sound hG h
    exact ⟨v, fun hc w => by simp [execOp, hv hc w], k⟩
  case fieldAddr s x f =>
    cases hs : P.underlying s with
    | none => simp [hs] at h
    | some d =>
      cases d <;> simp only [hs] at h <;> try exact h.elim
      case struct fs =>
        cases hx : ρ x <;> simp only [hx] at h <;> try exact h.elim
        case pointer a =>
          cases a <;> (try simp only at h) <;> try exact h.elim
          case some a =>
            cases hf : fs[f]? with
            | none => simp [hf] at h
            | some fd =>
              simp only [hf] at h
              cases hz : szOf P fd.type with
              | none => simp [hz] at h
              | some n =>
                cases n with
                | zero => simp [hz] at h
                | succ n =>
                  simp only [hz] at h
                  exact ⟨_, fun _ w => by simp [execOp, Instr.fieldAt, run_underlying hs, hf, hx, Instr.sureAddr, fieldPlace, run_szOf hz], h⟩
  case field t x f =>
    cases ht : P.underlying t with
    | none => simp [ht] at h
    | some d =>
      cases d <;> simp only [ht] at h <;> try exact h.elim
      case struct fs =>
        cases hx : ρ x <;> simp only [hx] at h <;> try exact h.elim
        case agg cs =>
          cases hf : fs[f]? with
          | none => simp [hf] at h
          | some fd =>
            simp only [hf] at h
            obtain ⟨v, hv, k⟩ := partK_sound hG h
            exact ⟨v, fun hc w => by simp [execOp, Instr.field, run_underlying ht, hf, hx, asAgg, hv hc w], k⟩
  case indexAddr t x ix =>
    cases ht : P.underlying t with
    | none => simp [ht] at h
    | some d =>
      cases d <;> simp only [ht] at h <;> try exact h.elim
      case array n e =>
        cases hx : ρ x <;> simp only [hx] at h <;> try exact h.elim
        case pointer a =>
          cases a <;> (try simp only at h) <;> try exact h.elim
          case some a =>
            cases hi : ρ ix <;> simp only [hi] at h <;> try exact h.elim
            case int k i =>
              cases hz : szOf P e with
              | none => simp [hz] at h
              | some sz =>
                simp only [hz] at h
                obtain ⟨g, k⟩ := h
                exact ⟨_, fun hc w => by
                  have b := hG _ g hc
                  simp [execOp, Instr.indexAt, hx, hi, asIntOf, run_underlying ht, Instr.sureAddr, b.1, b.2, run_szOf hz], k⟩
      case slice e =>
        cases hx : ρ x <;> simp only [hx] at h <;> try exact h.elim
        case slice a n cp =>
          cases hi : ρ ix <;> simp only [hi] at h <;> try exact h.elim
          case int k i =>
            cases hz : szOf P e with
            | none => simp [hz] at h
            | some sz =>
              simp only [hz] at h
              obtain ⟨p, g, k⟩ := h
              exact ⟨_, fun hc w => by
                obtain ⟨rfl, b1, b2⟩ := hG _ g hc
                simp [execOp, Instr.indexAt, hx, hi, asIntOf, run_underlying ht, b1, b2, run_szOf hz], k⟩
  case index t x ix =>
    cases ht : P.underlying t with
    | none => simp [ht] at h
    | some d =>
      cases d <;> simp only [ht] at h <;> try exact h.elim
      case string =>
        cases hx : ρ x <;> simp only [hx] at h <;> try exact h.elim
        case string s =>
          cases hi : ρ ix <;> simp only [hi] at h <;> try exact h.elim
          case int k i =>
            obtain ⟨g, kk⟩ := h
            refine ⟨_, fun hc w => ?_, kk⟩
            have b := hG _ g hc
            have hlt : i.toNat < s.size := by omega
            have hget : s[i.toNat]? = some s[i.toNat] := by simp [hlt]
            have hd : s.data.getD i.toNat 0 = s[i.toNat] := by
              have h1 : i.toNat < s.data.size := hlt
              rw [Array.getD_eq_getD_getElem?, Array.getElem?_eq_getElem h1]; rfl
            simp [execOp, Instr.index, hx, hi, asIntOf, run_underlying ht, b.1, hget, byteAt, hd]
      case array n e =>
        cases hx : ρ x <;> simp only [hx] at h <;> try exact h.elim
        case agg cs =>
          cases hi : ρ ix <;> simp only [hi] at h <;> try exact h.elim
          case int k i =>
            cases hz : szOf P e with
            | none => simp [hz] at h
            | some sz =>
              simp only [hz] at h
              obtain ⟨g, h⟩ := h
              obtain ⟨v, hv, k⟩ := partK_sound hG h
              exact ⟨v, fun hc w => by
                have b := hG _ g hc
                simp [execOp, Instr.index, hx, hi, asIntOf, run_underlying ht, b.1, b.2, run_szOf hz, hv hc w], k⟩
  case extract x i =>
    cases hx : ρ x <;> simp only [hx] at h <;> try exact h.elim
    case tuple vs =>
      cases hv : vs[i]? with
      | none => simp [hv] at h
      | some v =>
        simp only [hv] at h
        exact ⟨_, fun _ w => by simp [execOp, Instr.extract, hx, hv], h⟩
  case build t parts =>
    cases hb : bigT P t with
    | true =>
      simp only [hb] at h
      obtain ⟨cs, g, k⟩ := h
      exact ⟨_, fun hc w => by
        have := hG _ g hc
        simp only [execOp, Sem.run_bind, partsL_arr]
        rw [run_build w t _ cs this.eq]; rfl, k⟩
    | false =>
      simp only [hb] at h
      cases hp : builtL P t (partsL ρ parts.toList) with
      | none => simp only [hp] at h
      | some cs =>
        simp only [hp] at h
        exact ⟨_, fun _ w => by
          simp only [execOp, Sem.run_bind, partsL_arr]
          rw [run_build w t _ _ (builtL_eq hp)]; rfl, h⟩
  case call cl =>
    obtain ⟨callee, args, argTypes⟩ := cl
    cases callee <;> (try simp only at h) <;> try exact h.elim
    case builtin b =>
      cases b <;> (try simp only at h) <;> try exact h.elim
      case len =>
        cases ht : (argTypes[0]?).bind P.underlying with
        | none => simp [ht] at h
        | some d =>
          cases hx : (args[0]?).map ρ with
          | none => cases d <;> simp [ht, hx] at h
          | some v =>
            obtain ⟨t0, ht0, ht1⟩ := Option.bind_eq_some_iff.1 ht
            have hx' : (args.map ρ)[0]? = some v := by rw [Array.getElem?_map]; exact hx
            cases d <;> cases v <;> simp only [ht, hx] at h <;> try exact h.elim
            all_goals exact ⟨_, fun _ w => by simp only [execOp, resolve, invoke, builtin, Sem.run_bind, Sem.run_pure, Result.andThen_ok, Builtin.len_, ht0, hx', run_underlying ht1, goInt], h⟩
      case cap =>
        cases ht : (argTypes[0]?).bind P.underlying with
        | none => simp [ht] at h
        | some d =>
          cases hx : (args[0]?).map ρ with
          | none => cases d <;> simp [ht, hx] at h
          | some v =>
            obtain ⟨t0, ht0, ht1⟩ := Option.bind_eq_some_iff.1 ht
            have hx' : (args.map ρ)[0]? = some v := by rw [Array.getElem?_map]; exact hx
            cases d <;> cases v <;> simp only [ht, hx] at h <;> try exact h.elim
            all_goals exact ⟨_, fun _ w => by simp only [execOp, resolve, invoke, builtin, Sem.run_bind, Sem.run_pure, Result.andThen_ok, Builtin.cap_, ht0, hx', run_underlying ht1, goInt], h⟩
end Go.Vc
