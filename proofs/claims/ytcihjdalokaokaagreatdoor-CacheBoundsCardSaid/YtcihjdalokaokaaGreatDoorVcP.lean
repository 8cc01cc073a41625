/-
  Bytes: from strings and to strings, copies into a row of the call's own; maps whose keys are a string with a number. Conditions: none.
-/
import Derived.Test.YtcihjdalokaokaaGreatDoorVcN
import Derived.Laws.IdiomStrings
import Derived.Laws.BytesArg
set_option linter.unusedSimpArgs false
set_option linter.unusedVariables false
namespace Go.Vc
open Go

/- ------------------------------------------------------------------ bytes -/

def ByteE : Enc UInt8 := ⟨1, fun b => [.int .u8 b.toNat], fun _ => rfl, fun b v h => by simp at h; subst h; exact one_int _ _⟩
abbrev bytesL (s : ByteArray) : List UInt8 := s.data.toList

theorem Sl.byte {h : Heap} {a : Option Addr} {n : Nat} {xs : List UInt8} (hs : Sl ByteE h a n xs) {j : Nat} (hj : j < xs.length) : ∃ p, a = some p ∧ cell h (p.add j) = some (.int .u8 (xs[j].toNat : Int)) := by
  obtain ⟨p, e, hp⟩ := hs.get (List.getElem?_eq_getElem hj)
  refine ⟨p, e, ?_⟩
  have := hp 0 (.int .u8 (xs[j].toNat : Int)) rfl
  rw [show j * ByteE.sz + 0 = j by show j * 1 + 0 = j; omega] at this
  exact this

theorem reads_string {P : Program} {src dst e : TypeId} {h : Heap} {a : Option Addr} {n c : Nat} {xs : List UInt8} (hs : P.underlying src = some (.slice e)) (he : P.underlying e = some (.int .u8))
    (hd : P.underlying dst = some .string) (hsl : Sl ByteE h a n xs) : Reads P (convert src dst (.slice a n c)) h (.string ⟨xs.toArray⟩) := by
  refine ⟨fun w hw => ?_⟩
  subst hw
  have hl := hsl.1
  cases a with
  | none =>
    have : xs = [] := by rcases hsl.2 with e | ⟨p, e, _⟩; exact e; cases e
    subst this
    exact run_convert_bytes_nil (P := P) w src e hs he n c dst hd
  | some p =>
    subst hl
    refine run_convert_bytes_back (P := P) w src dst e p c xs hs he hd fun j hj => ?_
    obtain ⟨q, e, hq⟩ := hsl.byte hj
    cases e
    exact hq

theorem grown_ge (w : World) (n m : Nat) (e : TypeId) : n ≤ grownCap w n m e := by
  unfold grownCap Question.cut
  simp only
  omega

theorem svc_bytes {P : Program} {src dst e : TypeId} {h : Heap} {s : ByteArray} {K : Value → Heap → Prop} (hs : P.underlying src = some .string) (hd : P.underlying dst = some (.slice e))
    (he : P.underlying e = some (.int .u8)) (k : ∀ a c h', Keep h.size h h' → h'.size = h.size + 1 → Sl ByteE h' a s.size (bytesL s) → s.size ≤ c → (∀ i, blk a i → i = h.size) → K (.slice a s.size c) h') :
    SVC P (convert src dst (.string s)) h K := by
  refine ⟨fun w hw => ?_⟩
  subst hw
  refine ⟨_, _, run_bytes_of_string (P := P) w src dst e s hs hd he, Sane.push rfl, k _ _ _ (Keep.push _ _ _ (Nat.le_refl _)) (by show (w.heap.push _).size = _; simp) ⟨?_, .inr ⟨_, rfl, fun i x hx j v hv => ?_⟩⟩ (grown_ge ..) fun i ⟨p, e, hp⟩ => by cases e; exact hp.symm⟩
  · show s.data.toList.length = s.size; rw [Array.length_toList]; rfl
  · match j, hv with
    | 0, hv =>
      simp [ByteE] at hv
      subst hv
      have hi := (List.getElem?_eq_some_iff.1 hx)
      obtain ⟨hi, hxe⟩ := hi
      have e1 : i * ByteE.sz + 0 = i := by show i * 1 + 0 = i; omega
      rw [Addr.add_row, e1, Nat.zero_add]
      show cell (w.heap.push _) _ = _
      unfold cell
      simp only [Array.getElem?_push_size, Option.isSome_none, Bool.false_eq_true, if_false]
      have hi' : i < s.data.size := by simpa [bytesL] using hi
      have hx' : s.data[i] = x := by simpa [bytesL] using hxe
      rw [bytesRow, Array.getElem?_append_left (by simpa using hi')]
      rw [Array.getElem?_map, Array.getElem?_eq_getElem hi', hx']; rfl
    | j + 1, hv => simp [ByteE] at hv

/-- what a copy into a row of the call's own leaves. -/
theorem svc_copy_into {α : Type} {E : Enc α} {P : Program} {dT sT e T : TypeId} {ty : TypeId} {h : Heap} {b o dl dc : Nat} {old : Array Value} {A : Option Addr} {n c : Nat} {xs : List α} {K : Value → Heap → Prop}
    (hd : P.underlying dT = some (.slice e)) (hz : szOf P e = some E.sz) (hb : h[b]? = some (.cells old T (0, 0))) (ho : o + min n dl * E.sz ≤ old.size) (hsl : Sl E h A n xs)
    (k : ∀ h', h'.size = h.size → h'[b]? = some (.cells (putL old.toList o ((xs.take (min n dl)).flatMap E.enc)).toArray T (0, 0)) → (∀ i, i ≠ b → h'[i]? = h[i]?) → K (.int .i64 (min n dl : Nat)) h') :
    SVC P (Builtin.copy_ #[dT, sT] ty #[.slice (some ⟨b, o, none⟩) dl dc, .slice A n c]) h K := by
  refine ⟨fun w hw => ?_⟩
  subst hw
  have hl := hsl.1
  have hfl : ((xs.take (min n dl)).flatMap E.enc).length = min n dl * E.sz := by rw [flat_len, List.length_take, hl]; congr 1; omega
  have hread : (Builtin.firstCells E.sz (min n dl) (.slice A n c)).run P w = .ok ((xs.take (min n dl)).flatMap E.enc).toArray w := by
    rcases hsl.2 with rfl | ⟨p, rfl, hp⟩
    · simp at hl; subst hl
      cases A with
      | none => simp [Builtin.firstCells]
      | some p => simp only [Builtin.firstCells]; exact run_loadCells (by simp) (by simp)
    · simp only [Builtin.firstCells]
      refine run_loadCells hfl fun j v hv => ?_
      have hj := (List.getElem?_eq_some_iff.1 hv).1
      rw [hfl] at hj
      have hez : 0 < E.sz := Nat.pos_of_ne_zero fun e => by rw [e] at hj; omega
      have hq : j / E.sz < min n dl := (Nat.div_lt_iff_lt_mul hez).2 hj
      have hx : (xs.take (min n dl))[j / E.sz]? = some (xs[j / E.sz]'(by omega)) := by rw [List.getElem?_take, if_pos hq, List.getElem?_eq_getElem]
      have hm : j % E.sz < (E.enc (xs[j / E.sz]'(by omega))).length := by rw [E.len]; exact Nat.mod_lt _ hez
      have := flat_get (E := E) (xs.take (min n dl)) hx (List.getElem?_eq_getElem hm)
      have hjd : j / E.sz * E.sz + j % E.sz = j := by rw [Nat.mul_comm]; exact Nat.div_add_mod j E.sz
      rw [hjd] at this
      rw [this] at hv
      have hc := hp (j / E.sz) _ (List.getElem?_eq_getElem (by omega)) (j % E.sz) v ((List.getElem?_eq_getElem hm).trans hv)
      rw [hjd] at hc
      exact hc
  obtain ⟨w', cells', h1, h2, h3, h4, h5, h6, h7⟩ := run_storeCells (P := P) b T ((xs.take (min n dl)).flatMap E.enc) o old w 0 hb (by rw [hfl]; omega) (fun v hv => by
    obtain ⟨x, _, hx⟩ := List.mem_flatMap.1 hv
    exact E.one x v hx)
  refine ⟨.int .i64 (min n dl : Nat), w', ?_, h2, k _ h3 ?_ h7⟩
  · have hso : (sizeOf e).run P w = .ok E.sz w := run_szOf hz w
    simp [Builtin.copy_, run_underlying hd, Builtin.lenOf, hso, hread, h1, goInt]
  · rw [h4]
    have : cells'.toList = putL old.toList o ((xs.take (min n dl)).flatMap E.enc) := by rw [h6]; rfl
    rw [← this]

/- ------------------------------------------------------------------ keys that are a string with a number -/

section
variable {P : Program} {T kt et : TypeId}

theorem findAsking_eq {κ ν : Type} [DecidableEq κ] {ek : κ → Value} {ev : ν → Value} (hs : ∀ a b (w : World), (Op.equal kt (ek a) (ek b)).run P w = .ok (decide (b = a)) w) (k : κ) (w : World) :
    ∀ (es : List MapEntry) (m : List (κ × ν)) (i : Nat), es.map (fun e => (e.key, e.val)) = m.map (fun p => (ek p.1, ev p.2)) →
    (Instr.findAsking kt (ek k) es i).run P w = .ok ((mIdx m k).bind fun j => (m[j]?).map fun p => (i + j, ev p.2)) w
  | [], [], i, _ => rfl
  | [], _ :: _, i, h => by simp at h
  | _ :: _, [], i, h => by simp at h
  | e :: es, p :: m, i, h => by
    simp only [List.map_cons, List.cons.injEq, Prod.mk.injEq] at h
    obtain ⟨⟨h1, h2⟩, h3⟩ := h
    unfold Instr.findAsking
    rw [Sem.run_bind, h1, hs, Result.andThen_ok]
    by_cases hk : p.1 = k
    · simp [mIdx, List.findIdx?_cons, hk, h2]
    · simp only [hk, decide_false, Bool.false_eq_true, if_false]
      rw [findAsking_eq hs k w es m (i + 1) h3]
      simp only [mIdx, List.findIdx?_cons, hk, decide_false, Bool.false_eq_true, if_false]
      cases m.findIdx? fun p => decide (p.1 = k) with
      | none => rfl
      | some j => simp [Nat.add_assoc, Nat.add_comm 1]

theorem run_part_sc {t : TypeId} {cs : Array Value} {o : Nat} {v : Value} (ht : scT P t = true) (hv : cs[o]? = some v) (w : World) : (part t cs o).run P w = .ok v w := by
  simp [part, run_isAgg_sc ht, hv]

def keyV (k : ByteArray × Int) : Value := .agg #[.string k.1, .int .i64 k.2]

/-- a map keyed by a struct of a string and an int. -/
def pairMk (P : Program) (T kt et : TypeId) (ν : Type) (ev : ν → Value) (f0 f1 : Field) (hT : P.underlying T = some (.map kt et)) (hf : Flat P kt #[f0, f1]) (n0 : f0.name ≠ "_") (n1 : f1.name ≠ "_") (o0 : f0.offset = 0) (o1 : f1.offset = 1)
    (u0 : P.underlying f0.type = some .string) (u1 : P.underlying f1.type = some (.int .i64)) : Mk P T kt et (ByteArray × Int) ν where
  ek := keyV
  ev := ev
  und := hT
  find := fun k es m w he => by
    have heq : ∀ (a b : ByteArray × Int) (w : World), (Op.equal kt (keyV a) (keyV b)).run P w = .ok (decide (b = a)) w := fun a b w => by
      have hfo : P.fieldsOf kt = #[f0, f1] := by simp [Program.fieldsOf, hf.und]
      have a0 : aggT P f0.type = false := by simp [aggT, u0]
      have a1 : aggT P f1.type = false := by simp [aggT, u1]
      have e : eqFl P (#[Value.string a.1, .int .i64 a.2] : Array Value).toList (#[Value.string b.1, .int .i64 b.2] : Array Value).toList (#[f0, f1] : Array Field).toList = some (a.1.toList == b.1.toList && (a.2 == b.2 && true)) := by
        have b0 : (f0.name == "_") = false := by simp [n0]
        have b1 : (f1.name == "_") = false := by simp [n1]
        have e1 : eqSc (P.underlying f1.type) (.int .i64 a.2) (.int .i64 b.2) = some (a.2 == b.2) := by rw [u1]; rfl
        have e0 : eqSc (P.underlying f0.type) (.string a.1) (.string b.1) = some (a.1.toList == b.1.toList) := by rw [u0]; rfl
        simp only [eqFl, b0, b1, o0, o1, a0, a1, List.getElem?_cons_zero, List.getElem?_cons_succ, e0, e1]
      have : decide (b = a) = (a.1.toList == b.1.toList && (a.2 == b.2 && true)) := by
        rw [← beq_toListBytes, beq_dec, Bool.and_true]
        by_cases h1 : b.1 = a.1 <;> by_cases h2 : a.2 = b.2
        · simp [h1, h2, Prod.ext_iff]
        · simp [h1, h2, Prod.ext_iff, Ne.symm h2]
        · simp [h1, h2, Prod.ext_iff]
        · simp [h1, h2, Prod.ext_iff]
      rw [this]
      unfold Op.equal Op.maxDepth keyV
      rw [run_equalIn_struct (P := P) w 9999 kt _ _ (by rw [hfo]; exact hf.und) hf.held, hfo]
      exact run_eqFl 9998 w e
    have hu : (underlying kt).run P w = .ok (.struct #[f0, f1]) w := run_underlying hf.und w
    unfold Instr.findKey
    rw [Sem.run_bind, hu, Result.andThen_ok]
    cases es with
    | nil =>
      cases m with
      | nil => rfl
      | cons _ _ => simp at he
    | cons e es =>
      have hn : Instr.findNow (.struct #[f0, f1]) (keyV k) (e :: es) 0 = none := by simp [Instr.findNow, Instr.sameNow]
      rw [hn]
      have := findAsking_eq (P := P) (kt := kt) (ek := keyV) (ev := ev) heq k w (e :: es) m 0 he
      simpa using this
  check := fun k b w => by
    have hu : ∀ w, (underlying kt).run P w = .ok (.struct #[f0, f1]) w := fun w => run_underlying hf.und w
    have s0 : scT P f0.type = true := by simp [scT, u0]
    have s1 : scT P f1.type = true := by simp [scT, u1]
    have p0 : (part f0.type #[Value.string k.1, .int .i64 k.2] 0).run P w = .ok (.string k.1) w := run_part_sc s0 rfl w
    have p1 : (part f1.type #[Value.string k.1, .int .i64 k.2] 1).run P w = .ok (.int .i64 k.2) w := run_part_sc s1 rfl w
    have c0 := check_string (P := P) u0 9998 b k.1 w
    have c1 := check_int (P := P) u1 9998 b k.2 w
    unfold Instr.checkKey keyV
    simp [hu, n0, n1, o0, o1, p0, p1, c0, c1]
  bits := fun k => by
    have hb : (k.1 == k.1) = true := by rw [beq_dec]; simp
    simp [keyV, Instr.sameBits, bits_string, bits_int, hb]
end
end Go.Vc
