/-
  A script of a cache's calls that came in; is it great? Conditions: none.
-/
import Derived.Test.YtcihjdalokaokaaGreatDoorKvX
set_option linter.unusedVariables false
set_option linter.unusedSimpArgs false
set_option maxRecDepth 100000
namespace Go.Proofs.YtcihjdalokaokaaGreatDoor
open Go Go.Vc Go.Proofs Go.Dk Go.Kv

/-- a call of a cache. -/
structure Cl where
  kind : Int
  key : Str
  n : Int
  a : Option Addr
  ln : Nat
  cp : Nat
  ws : List Wr
instance : Inhabited Cl := ⟨⟨0, ⟨#[]⟩, 0, none, 0, 0, []⟩⟩
instance : Inhabited Wr := ⟨⟨⟨#[]⟩, ⟨#[]⟩, false⟩⟩
def ClE : Enc Cl := ⟨4, fun c => [.int .i64 c.kind, .string c.key, .int .i64 c.n, .slice c.a c.ln c.cp], fun _ => rfl, fun q v hv => by
  simp only [List.mem_cons, List.not_mem_nil, or_false] at hv
  rcases hv with rfl | rfl | rfl | rfl
  · exact one_int _ _
  · exact one_string _
  · exact one_int _ _
  · exact one_slice _ _ _⟩
def WrOk (w : Wr) : Prop := w.key.size ≤ 9223372036854775807 ∧ w.val.size ≤ 9223372036854775807
def ClOk (h : Heap) (c : Cl) : Prop := c.n ≤ 9223372036854775807 ∧ Sl WrE h c.a c.ln c.ws ∧ c.ln ≤ c.cp ∧ c.ln ≤ 9223372036854775807 ∧ (∀ w ∈ c.ws, WrOk w) ∧ c.key.size ≤ 9223372036854775807
theorem fldK {H : Type} {enc : TypeId × Value → H} {P : Program} {w : World} {base : Nat} {spare : Nat → Bool} {held : Bool} {n : Nat} {cs : List Value} {fs : Array Field} {xs : List (DataW H × List MemPlace)}
    (h : ∀ (i : Nat) (f : Field), fs[i]? = some f → DataW.trod enc P w base spare held n f.type ((cs.drop f.offset).take (P.cellsOf f.type)) = xs[i]?) (hl : xs.length = fs.size) (i : Nat) {f : Field} {t : TypeId} {o : Nat}
    (hf : fs[i]? = some f) (ht : f.type = t) (ho : f.offset = o) (hc : P.cellsOf f.type = 1) : ∃ x, DataW.trod enc P w base spare held n t ((cs.drop o).take 1) = some x := by
  have hi : i < xs.length := by rw [hl]; exact (Array.getElem?_eq_some_iff.1 hf).1
  have := h i f hf
  rw [ht, ho, ← ht, hc, ht, List.getElem?_eq_getElem hi] at this
  exact ⟨_, this⟩
theorem uI : Tryz.prog.underlying 3 = some (.int .i64) := by kernel_rfl
theorem uB : Tryz.prog.underlying 4 = some .bool := by kernel_rfl
theorem uW : Tryz.prog.underlying 42 = some (.struct #[(Tryz.prog.fieldsOf 42)[0]!, (Tryz.prog.fieldsOf 42)[1]!, (Tryz.prog.fieldsOf 42)[2]!]) := by kernel_rfl
theorem uWs : Tryz.prog.underlying 32 = some (.slice 42) := by kernel_rfl
theorem uCl : Tryz.prog.underlying 66 = some (.struct #[(Tryz.prog.fieldsOf 66)[0]!, (Tryz.prog.fieldsOf 66)[1]!, (Tryz.prog.fieldsOf 66)[2]!, (Tryz.prog.fieldsOf 66)[3]!]) := by kernel_rfl
theorem decWr : DecW WrE Tryz.prog 42 fun _ w => WrOk w := fun {H enc w base spare held n cs d} h => by
  obtain ⟨xs, m, _, _, hl, hx, hf⟩ := DataW.trod_struct uW h
  obtain ⟨_, f0⟩ := fldK (t := 9) (o := 0) hf hx 0 rfl (by kernel_rfl) (by kernel_rfl) (by kernel_rfl)
  obtain ⟨_, f1⟩ := fldK (t := 9) (o := 1) hf hx 1 rfl (by kernel_rfl) (by kernel_rfl) (by kernel_rfl)
  obtain ⟨_, f2⟩ := fldK (t := 4) (o := 2) hf hx 2 rfl (by kernel_rfl) (by kernel_rfl) (by kernel_rfl)
  have hl2 : cs.length = 3 := hl.trans (by kernel_rfl)
  match cs, hl2 with
  | [a, b, c], _ =>
    obtain ⟨s0, e0, g0⟩ := decStr uS f0
    obtain ⟨s1, e1, g1⟩ := decStr uS f1
    obtain ⟨s2, e2, g2⟩ := decBool uB f2
    simp [StrE, BoolE] at e0 e1 e2
    subst e0 e1 e2
    exact ⟨⟨s0, s1, s2⟩, rfl, g0, g1⟩
theorem decCl : DecW ClE Tryz.prog 66 fun w c => ClOk w.heap c := fun {H enc w base spare held n cs d} h => by
  obtain ⟨xs, m, _, _, hl, hx, hf⟩ := DataW.trod_struct uCl h
  obtain ⟨_, f0⟩ := fldK (t := 3) (o := 0) hf hx 0 rfl (by kernel_rfl) (by kernel_rfl) (by kernel_rfl)
  obtain ⟨_, f1⟩ := fldK (t := 9) (o := 1) hf hx 1 rfl (by kernel_rfl) (by kernel_rfl) (by kernel_rfl)
  obtain ⟨_, f2⟩ := fldK (t := 3) (o := 2) hf hx 2 rfl (by kernel_rfl) (by kernel_rfl) (by kernel_rfl)
  obtain ⟨_, f3⟩ := fldK (t := 32) (o := 3) hf hx 3 rfl (by kernel_rfl) (by kernel_rfl) (by kernel_rfl)
  have hl2 : cs.length = 4 := hl.trans (by kernel_rfl)
  match cs, hl2 with
  | [a, b, c, d], _ =>
    obtain ⟨s0, e0, g0⟩ := decInt uI f0
    obtain ⟨s1, e1, g1⟩ := decStr uS f1
    obtain ⟨s2, e2, g2⟩ := decInt uI f2
    obtain ⟨s3, e3, g3⟩ := decSlice uWs (by kernel_rfl) decWr f3
    simp [StrE, IntE, SliceE] at e0 e1 e2 e3
    subst e0 e1 e2 e3
    obtain ⟨ps, h1, h2, h3, h4⟩ := g3
    exact ⟨⟨s0, s1, s2, s3.1, s3.2.1, s3.2.2, ps⟩, rfl, (i64_rng g2).2, h1, h2, h3, h4, g1⟩
abbrev clVal (c : Cl) : Value := .agg #[.int .i64 c.kind, .string c.key, .int .i64 c.n, .slice c.a c.ln c.cp]
abbrev clBox (c : Cl) : Obj := .cells #[.int .i64 c.kind, .string c.key, .int .i64 c.n, .slice c.a c.ln c.cp] 66 (0, 0)
theorem agCl : agT Tryz.prog 66 4 = true := by kernel_rfl
theorem szCl : szOf Tryz.prog 66 = some 4 := by kernel_rfl
theorem kWs : scT Tryz.prog 32 = true := by kernel_rfl
theorem cl_at {h : Heap} {A : Option Addr} {n k : Nat} {l : List Cl} {w : Cl} (hs : Sl ClE h A n l) (hq : l[k]? = some w) :
    ∃ p, A = some p ∧ Reads Tryz.prog (Instr.loadAt 66 (.pointer (some (p.add (k * 4))))) h (.agg (Array.mk [.int .i64 w.kind, .string w.key, .int .i64 w.n, .slice w.a w.ln w.cp])) := by
  obtain ⟨p, e, hp⟩ := hs.get hq
  exact ⟨p, e, reads_load_agg (cs := [.int .i64 w.kind, .string w.key, .int .i64 w.n, .slice w.a w.ln w.cp]) agCl rfl fun j v hv => by rw [Addr.add_add]; exact hp j v hv⟩
theorem svc_cl {w : Cl} {h : Heap} {old : Array Value} {K : Unit → Heap → Prop} (ho : old.size = 4) (k : K () (h.push (clBox w))) :
    SVC Tryz.prog (Instr.storeAt 66 (.pointer (some ⟨h.size, 0, none⟩)) (.agg (Array.mk [.int .i64 w.kind, .string w.key, .int .i64 w.n, .slice w.a w.ln w.cp]))) (h.push (.cells old 66 (0, 0))) K :=
  svc_store_new (v := clVal w) szCl ho (fun v hv => ClE.one w v hv) k
section
variable {w : Cl} {h : Heap} {b : Nat}
theorem cl_kind (hb : h[b]? = some (clBox w)) : Reads Tryz.prog (Instr.loadAt 3 (.pointer (some ⟨b, 0, none⟩))) h (.int .i64 w.kind) := reads_load kI (cell_cells0 hb rfl)
theorem cl_key (hb : h[b]? = some (clBox w)) : Reads Tryz.prog (Instr.loadAt 9 (.pointer (some ((⟨b, 0, none⟩ : Addr).add 1)))) h (.string w.key) := reads_load kS (cell_cells hb rfl)
theorem cl_n (hb : h[b]? = some (clBox w)) : Reads Tryz.prog (Instr.loadAt 3 (.pointer (some ((⟨b, 0, none⟩ : Addr).add 2)))) h (.int .i64 w.n) := reads_load kI (cell_cells hb rfl)
theorem cl_ws (hb : h[b]? = some (clBox w)) : Reads Tryz.prog (Instr.loadAt 32 (.pointer (some ((⟨b, 0, none⟩ : Addr).add 3)))) h (.slice w.a w.ln w.cp) := reads_load kWs (cell_cells hb rfl)
end
theorem ClOk.at {h h' : Heap} {w : Cl} (hw : ClOk h w) (t : Turn h h') : ClOk h' w := ⟨hw.1, hw.2.1.updM (t.m (S := fun _ => False)) fun _ _ _ h => h, hw.2.2⟩
theorem sl_lt {α : Type} {E : Enc α} {h : Heap} {a : Option Addr} {n : Nat} {xs : List α} (hz : 0 < E.sz) (hs : Sl E h a n xs) (hx : n ≠ 0) : ∀ q, blk a q → q < h.size := fun q hq => by
  cases xs with
  | nil => exact absurd hs.1.symm hx
  | cons x xs =>
    obtain ⟨p, hp, hc⟩ := hs.get (i := 0) (x := x) rfl
    obtain ⟨p', e, hq'⟩ := hq
    rw [hp] at e
    cases e
    have hj : 0 < (E.enc x).length := by rw [E.len]; exact hz
    have h4 := cell_lt (hc 0 _ (List.getElem?_eq_getElem hj))
    rw [Addr.add_block, hq'] at h4
    exact h4
set_option maxHeartbeats 1000000 in
theorem great13_spec {h : Heap} {A : Option Addr} {n c : Nat} {l : List Cl} (hs : Sl ClE h A n l) (hok : ∀ x ∈ l, ClOk h x) (hn : n ≤ 9223372036854775807) :
    HC Tryz.prog 37 #[.slice A n c] h fun v h' => Keep h.size h h' ∧ ∃ b, v = .bool b ∧ (b = false → n ≤ 100) := by
  have hl := hs.1
  refine HC_of_vc (args := [.slice A n c]) (base := 50) (cuts := []) (bigs := []) kM Tryz.func37 ?_
  rw [vc13Great]
  refine ⟨fun _ _ n4 H => ∃ i : Nat, n4 = i ∧ i ≤ n ∧ Keep h.size h H, fun _ _ n4 _ => n - n4.toNat, ⟨0, rfl, Nat.zero_le _, Keep.refl _ _⟩, ?_⟩
  rintro b2 n3 n4 H ⟨i, rfl, hi, kH⟩
  refine br_intro (fun hlt => ?_) fun hge => ?_
  · have hlt : i < n := by simpa using hlt
    have hq : l[i]? = some (l[i]'(by omega)) := List.getElem?_eq_getElem (by omega)
    have hm := List.getElem_mem (by omega : i < l.length)
    generalize l[i]'(by omega) = x at hq hm
    obtain ⟨p, eA, rd⟩ := cl_at (hs.keep kH) hq
    obtain ⟨_, wsl, _, hln, _, _⟩ := hok x hm
    refine ⟨p, ⟨eA, by omega, by omega⟩, _, _, _, _, _, _, rd, svc_cl rfl ?_⟩
    have kb := keep_push H (clBox x)
    have bb := push_at H (clBox x)
    generalize H.push (clBox x) = H2 at kb bb
    have kH2 := kH.trans (kb.mono kH.size)
    refine ⟨_, _, _, cl_ws bb, _, cl_key bb, by decide, br_intro (fun _ => ⟨kH2, true, rfl, fun e => by cases e⟩) fun _ => ?_⟩
    refine ⟨_, _, _, cl_ws bb, ?_⟩
    generalize IntKind.i64.wrap (n3 + IntKind.i64.wrap ((x.ln : Int) + IntKind.i64.wrap ((x.key.size : Int).tdiv 16))) = n3'
    refine ⟨fun _ _ n26 G => ∃ j : Nat, n26 = j ∧ j ≤ x.ln ∧ Keep h.size h G, fun _ _ n26 _ => x.ln - n26.toNat, ⟨0, rfl, Nat.zero_le _, kH2⟩, ?_⟩
    rintro b24 n25 n26 G ⟨j, rfl, hj, kG⟩
    refine br_intro (fun hjl => ?_) fun _ => ?_
    · have hjl : j < x.ln := by simpa using hjl
      have hwl := wsl.1
      have hq2 : x.ws[j]? = some (x.ws[j]'(by omega)) := List.getElem?_eq_getElem (by omega)
      generalize x.ws[j]'(by omega) = w at hq2
      obtain ⟨p2, eA2, rd2⟩ := wr_at (wsl.keep kG) hq2
      refine ⟨p2, ⟨eA2, by omega, by omega⟩, _, _, _, rd2, svc_wr rfl ?_⟩
      have kb2 := keep_push G (wrBox w)
      have bb2 := push_at G (wrBox w)
      generalize G.push (wrBox w) = G2 at kb2 bb2
      have kG2 := kG.trans (kb2.mono kG.size)
      refine ⟨_, wr_k bb2, _, wr_v bb2, by decide, br_intro (fun _ => ⟨kG2, true, rfl, fun e => by cases e⟩) fun _ => ?_⟩
      rw [show IntKind.i64.wrap ((j : Int) + 1) = j + 1 from wrap_i64 (by omega) (by omega)]
      exact ⟨⟨j + 1, rfl, by omega, kG2⟩, by dsimp only; omega⟩
    · rw [show IntKind.i64.wrap ((i : Int) + 1) = i + 1 from wrap_i64 (by omega) (by omega)]
      exact ⟨⟨i + 1, rfl, by omega, kG⟩, by dsimp only; omega⟩
  · exact ⟨kH, _, rfl, fun e => by have := of_decide_eq_false e; omega⟩
end Go.Proofs.YtcihjdalokaokaaGreatDoor
