/-
  The disk's reference on a heap: its lists of files, its small calls, its names, a page read, writes dropped. Conditions: none.
-/
import Derived.Test.YtembbemljejjbaaVcW
import Derived.Test.YtembbemljejjbaaDkD
import Derived.Test.YtembbemljejjbaaDk1
import Derived.Test.YtembbemljejjbaaDkS
import Derived.Test.YtembbemljejjbaaRG
set_option linter.unusedVariables false
set_option linter.unusedSimpArgs false
set_option maxRecDepth 100000
namespace Go.Proofs.Ytembbemljejjbaa
open Go Go.Vc Go.Proofs Go.Dk

theorem undR : Try.prog.underlying 51 = some (.pointer (Try.prog.pointee 51)) := by kernel_rfl
theorem scFs : scT Try.prog 60 = true := by kernel_rfl
theorem scRw : scT Try.prog 61 = true := by kernel_rfl
theorem szFs : szOf Try.prog 60 = some 1 := by kernel_rfl
theorem szRw : szOf Try.prog 61 = some 1 := by kernel_rfl
theorem szS : szOf Try.prog 9 = some 1 := by kernel_rfl
theorem agFl : agT Try.prog 65 2 = true := by kernel_rfl
theorem agRw : agT Try.prog 141 3 = true := by kernel_rfl
theorem szFl : szOf Try.prog 65 = some 2 := by kernel_rfl
theorem szWr : szOf Try.prog 141 = some 3 := by kernel_rfl
theorem app_fl : App Try.prog 60 65 FlE.sz 40 (.agg #[.string ⟨#[]⟩, .slice none 0 0]) := ⟨by kernel_rfl, by kernel_rfl, by kernel_rfl, by kernel_rfl, rfl, by decide, by decide⟩

/-- a write of the reference, in cells. -/
def RwE : Enc Wt := ⟨3, fun w => [.string w.n, .int .i64 w.i, .string w.p], fun w => rfl, fun w v hv => by
  simp only [List.mem_cons, List.not_mem_nil, or_false] at hv
  rcases hv with rfl | rfl | rfl
  · exact one_string _
  · exact one_int _ _
  · exact one_string _⟩
theorem app_rw : App Try.prog 61 141 RwE.sz 40 (.agg #[.string ⟨#[]⟩, .int .i64 0, .string ⟨#[]⟩]) := ⟨by kernel_rfl, by kernel_rfl, by kernel_rfl, by kernel_rfl, rfl, by decide, by decide⟩
theorem bs_fl (f : Fl) : bsCells Try.prog 60 1 [(0, f.val)] = some (65, FlE.enc f) :=
  bs_one (z := .agg #[.string ⟨#[]⟩, .slice none 0 0]) app_fl.und app_fl.size app_fl.zero rfl (by decide) (by decide) rfl
theorem bs_rw (w : Wt) : bsCells Try.prog 61 1 [(0, .agg #[.string w.n, .int .i64 w.i, .string w.p])] = some (141, RwE.enc w) :=
  bs_one (z := .agg #[.string ⟨#[]⟩, .int .i64 0, .string ⟨#[]⟩]) app_rw.und app_rw.size app_rw.zero rfl (by decide) (by decide) rfl

def refC (A1 : Option Addr) (n1 c1 : Nat) (A2 : Option Addr) (n2 c2 : Nat) (A3 : Option Addr) (n3 c3 : Nat) (x : D) : List Value :=
  [.slice A1 n1 c1, .slice A2 n2 c2, .slice A3 n3 c3, .int .i64 x.room, .bool x.down, .int .i64 x.acts, .int .i64 x.fuse, .int .u64 x.keep]
/-- the reference on a heap; none of the blocks of its lists is of N. -/
structure RefP (h : Heap) (m : Nat) (x : D) (N : Nat → Prop) (A1 : Option Addr) (n1 c1 : Nat) (f1 : List Fl) (A2 : Option Addr) (n2 c2 : Nat) (f2 : List Fl) (A3 : Option Addr) (n3 c3 : Nat) : Prop where
  box : h[m]? = some (.cells (refC A1 n1 c1 A2 n2 c2 A3 n3 c3 x).toArray 63 (0, 0))
  now : FsN N h A1 n1 f1
  nowE : f1.map Fl.pl = x.now
  safe : FsN N h A2 n2 f2
  safeE : f2.map Fl.pl = x.safe
  waits : SlN RwE N h A3 n3 x.waits
  nm : N m
def RefAt (h : Heap) (m : Nat) (x : D) (N : Nat → Prop) : Prop := ∃ A1 n1 c1 f1 A2 n2 c2 f2 A3 n3 c3, RefP h m x N A1 n1 c1 f1 A2 n2 c2 f2 A3 n3 c3
section
variable {h h' : Heap} {m : Nat} {x : D} {N M S : Nat → Prop} {A1 : Option Addr} {n1 c1 : Nat} {f1 : List Fl} {A2 : Option Addr} {n2 c2 : Nat} {f2 : List Fl} {A3 : Option Addr} {n3 c3 : Nat}
theorem RefP.upd (hr : RefP h m x N A1 n1 c1 f1 A2 n2 c2 f2 A3 n3 c3) (u : Upd S h h') (hS : ∀ q, S q → N q) (hm : ¬ S m) : RefP h' m x N A1 n1 c1 f1 A2 n2 c2 f2 A3 n3 c3 :=
  ⟨u.at hr.box hm, hr.now.upd (u.mono hS), hr.nowE, hr.safe.upd (u.mono hS), hr.safeE, hr.waits.upd (u.mono hS), hr.nm⟩
theorem RefP.keep (hr : RefP h m x N A1 n1 c1 f1 A2 n2 c2 f2 A3 n3 c3) (k : Keep h.size h h') : RefP h' m x N A1 n1 c1 f1 A2 n2 c2 f2 A3 n3 c3 := hr.upd (k.upd fun _ => False) (fun _ h => h.elim) id
theorem RefP.turn (hr : RefP h m x N A1 n1 c1 f1 A2 n2 c2 f2 A3 n3 c3) (hM : ∀ q, q < h.size → M q → N q) (hm : M m) : RefP h m x M A1 n1 c1 f1 A2 n2 c2 f2 A3 n3 c3 :=
  ⟨hr.box, hr.now.turn hM, hr.nowE, hr.safe.turn hM, hr.safeE, hr.waits.turn (by decide) hM, hm⟩
theorem RefP.lt (hr : RefP h m x N A1 n1 c1 f1 A2 n2 c2 f2 A3 n3 c3) : m < h.size := at_lt hr.box
theorem RefP.rd (hr : RefP h m x N A1 n1 c1 f1 A2 n2 c2 f2 A3 n3 c3) {k : Nat} {v : Value} (hk : (refC A1 n1 c1 A2 n2 c2 A3 n3 c3 x)[k]? = some v) : cell h ((⟨m, 0, none⟩ : Addr).add k) = some v :=
  cell_cells hr.box (by simpa using hk)
theorem RefAt.upd (hr : RefAt h m x N) (u : Upd S h h') (hS : ∀ q, S q → N q) (hm : ¬ S m) : RefAt h' m x N := let ⟨_, _, _, _, _, _, _, _, _, _, _, r⟩ := hr; ⟨_, _, _, _, _, _, _, _, _, _, _, r.upd u hS hm⟩
theorem RefAt.keep (hr : RefAt h m x N) (k : Keep h.size h h') : RefAt h' m x N := hr.upd (k.upd fun _ => False) (fun _ h => h.elim) id
theorem RefAt.turn (hr : RefAt h m x N) (hM : ∀ q, q < h.size → M q → N q) (hm : M m) : RefAt h m x M := let ⟨_, _, _, _, _, _, _, _, _, _, _, r⟩ := hr; ⟨_, _, _, _, _, _, _, _, _, _, _, r.turn hM hm⟩
theorem RefAt.lt (hr : RefAt h m x N) : m < h.size := let ⟨_, _, _, _, _, _, _, _, _, _, _, r⟩ := hr; r.lt
theorem RefAt.nm (hr : RefAt h m x N) : N m := let ⟨_, _, _, _, _, _, _, _, _, _, _, r⟩ := hr; r.nm
/-- the box alone is written. -/
theorem RefP.box' {c' : List Value} {y : D} {B1 : Option Addr} {m1 d1 : Nat} {g1 : List Fl} {B2 : Option Addr} {m2 d2 : Nat} {g2 : List Fl} {B3 : Option Addr} {m3 d3 : Nat} (hm : N m) (u : Upd (fun q => q = m) h h')
    (hb : h'[m]? = some (.cells c'.toArray 63 (0, 0))) (hc : c' = refC B1 m1 d1 B2 m2 d2 B3 m3 d3 y)
    (e1 : FsN N h B1 m1 g1) (e1' : g1.map Fl.pl = y.now) (e2 : FsN N h B2 m2 g2) (e2' : g2.map Fl.pl = y.safe) (e3 : SlN RwE N h B3 m3 y.waits) : RefP h' m y N B1 m1 d1 g1 B2 m2 d2 g2 B3 m3 d3 := by
  have u' : Upd N h h' := u.mono fun q e => e ▸ hm
  exact ⟨by rw [hb, hc], e1.upd u', e1', e2.upd u', e2', e3.upd u', hm⟩
/-- the box alone is written, its lists stay. -/
theorem RefP.same {c' : List Value} (hr : RefP h m x N A1 n1 c1 f1 A2 n2 c2 f2 A3 n3 c3) (y : D) (u : Upd (fun q => q = m) h h') (hb : h'[m]? = some (.cells c'.toArray 63 (0, 0)))
    (hc : c' = refC A1 n1 c1 A2 n2 c2 A3 n3 c3 y) (e1 : y.now = x.now) (e2 : y.safe = x.safe) (e3 : y.waits = x.waits) : RefP h' m y N A1 n1 c1 f1 A2 n2 c2 f2 A3 n3 c3 :=
  RefP.box' hr.nm u hb hc hr.now (by rw [e1]; exact hr.nowE) hr.safe (by rw [e2]; exact hr.safeE) (by rw [e3]; exact hr.waits)
end
end Go.Proofs.Ytembbemljejjbaa
set_option linter.unusedVariables false
set_option linter.unusedSimpArgs false
set_option maxRecDepth 100000
namespace Go.Proofs.Ytembbemljejjbaa
open Go Go.Vc Go.Proofs Go.Dk

abbrev flBox (f : Fl) : Obj := .cells (Array.mk [Value.string f.n, Value.slice f.a f.len f.cap]) 65 (0, 0)
theorem one_fl (f : Fl) : oneCells f.val.cells.toList := fun v hv => FlE.one f v hv
theorem fs_at {N : Nat → Prop} {h : Heap} {A : Option Addr} {n k : Nat} {fs : List Fl} (hf : FsN N h A n fs) (hk : k < n) :
    ∃ f p, fs[k]? = some f ∧ A = some p ∧ Reads Try.prog (Instr.loadAt 65 (.pointer (some (p.add (k * 2))))) h f.val ∧ FlOk N h f := by
  have hl := hf.len
  have hx : fs[k]? = some (fs[k]'(by omega)) := List.getElem?_eq_getElem (by omega)
  obtain ⟨p, e, hp, ok⟩ := hf.row hx
  exact ⟨_, p, hx, e, reads_load_agg agFl rfl hp, ok⟩
/-- a file is put in a box. -/
theorem svc_fl {f : Fl} {h : Heap} {old : Array Value} {K : Unit → Heap → Prop} (ho : old.size = 2) (k : K () (h.push (flBox f))) :
    SVC Try.prog (Instr.storeAt 65 (.pointer (some ⟨h.size, 0, none⟩)) (.agg (Array.mk [Value.string f.n, Value.slice f.a f.len f.cap]))) (h.push (.cells old 65 (0, 0))) K :=
  svc_store_new (v := f.val) szFl ho (one_fl f) k
theorem svc_fl_own {f : Fl} {h : Heap} {b : Nat} {old : Array Value} {K : Unit → Heap → Prop} (hb : h[b]? = some (.cells old 65 (0, 0))) (ho : old.size = 2)
    (k : ∀ h', h'.size = h.size → h'[b]? = some (flBox f) → Upd (fun q => q = b) h h' → K () h') :
    SVC Try.prog (Instr.storeAt 65 (.pointer (some ⟨b, 0, none⟩)) (.agg (Array.mk [Value.string f.n, Value.slice f.a f.len f.cap]))) h K :=
  svc_store_own (v := f.val) szFl hb ho (one_fl f) fun h' e1 e2 e3 => k h' e1 e2 (upd_of_one e1 e3)
section
variable {f : Fl} {h : Heap} {b : Nat}
theorem fb_name (hb : h[b]? = some (flBox f)) : Reads Try.prog (Instr.loadAt 9 (.pointer (some ⟨b, 0, none⟩))) h (.string f.n) := reads_load scS (cell_cells0 hb rfl)
theorem fb_pages (hb : h[b]? = some (flBox f)) : Reads Try.prog (Instr.loadAt 37 (.pointer (some ((⟨b, 0, none⟩ : Addr).add 1)))) h (.slice f.a f.len f.cap) := reads_load scSs (cell_cells hb rfl)
theorem fb_all (hb : h[b]? = some (flBox f)) : Reads Try.prog (Instr.loadAt 65 (.pointer (some ⟨b, 0, none⟩))) h (.agg (Array.mk [Value.string f.n, Value.slice f.a f.len f.cap])) :=
  reads_load_agg (cs := [Value.string f.n, Value.slice f.a f.len f.cap]) agFl rfl (cells_all hb)
end

theorem drop_at {α : Type} {l : List α} {k : Nat} {x : α} (h : l[k]? = some x) : l.drop k = x :: l.drop (k + 1) := by
  obtain ⟨hk, e⟩ := List.getElem?_eq_some_iff.1 h
  rw [List.drop_eq_getElem_cons hk, e]

theorem get_spec {N : Nat → Prop} {h : Heap} {A : Option Addr} {n c : Nat} {fs : List Fl} (hf : FsN N h A n fs) (hn : n ≤ 1073741824) (s : Str) :
    HC Try.prog 92 #[.slice A n c, .string s] h fun v h' => Keep h.size h h' ∧ ∃ f : Fl, v = .tuple #[f.val, .bool (mGet (fs.map Fl.pl) s).isSome] ∧ f.n = s ∧ FlOk N h' f ∧ f.pages = pgs (fs.map Fl.pl) s := by
  refine HC_of_vc (args := [.slice A n c, .string s]) (base := 22) (cuts := []) (bigs := []) hm Try.func92 ?_
  rw [vcGet]
  refine ⟨fun _ n3 h4 => ∃ k : Nat, n3 = k ∧ k ≤ n ∧ Keep h.size h h4 ∧ (∃ old, h4[h.size]? = some (.cells old 65 (0, 0)) ∧ old.size = 2) ∧ mGet (fs.map Fl.pl) s = mGet ((fs.drop k).map Fl.pl) s, fun _ n3 _ => n - n3.toNat,
    ⟨0, rfl, Nat.zero_le _, keep_push _ _, ⟨_, push_at _ _, rfl⟩, rfl⟩, ?_⟩
  rintro b2 n3 h4 ⟨k, rfl, hk, k4, ⟨old, b4, ho⟩, hg⟩
  refine br_intro (fun hlt => ?_) (fun hge => ?_)
  · have hlt : k < n := by simpa using hlt
    obtain ⟨f, p, hx, hA, rd, ok⟩ := fs_at (hf.keep k4) hlt
    refine ⟨p, ⟨hA, by omega, by omega⟩, _, _, _, _, rd, svc_fl rfl ?_⟩
    have b11 := push_at h4 (flBox f)
    have k11 := keep_push h4 (flBox f)
    refine ⟨_, fb_name b11, ?_⟩
    rw [drop_at hx, List.map_cons] at hg
    refine br_intro (fun e => ?_) (fun e => ?_)
    · have e : f.n = s := eq_beq.1 e
      have hg : mGet (fs.map Fl.pl) s = some f.pages := by rw [hg]; simp [mGet, Fl.pl, e]
      refine ⟨_, _, _, _, fb_all b11, svc_fl_own (k11.at b4 (at_lt b4)) ho fun h18 s18 b18 u18 => ⟨_, _, _, _, fb_all b18, ?_⟩⟩
      have hsz := k4.size
      have kk : Keep h.size h h18 := k4.trans ((k11.mono hsz).trans (u18.keep (by rw [Array.size_push]; omega) fun i e => by omega))
      exact ⟨kk, f, by rw [hg]; rfl, e, (hf.each f (List.mem_of_getElem? hx)).keep kk, by unfold pgs; rw [hg]; rfl⟩
    · have e : f.n ≠ s := fun h0 => by rw [eq_beq.2 h0] at e; cases e
      rw [wrap_i64 (by omega) (by omega)]
      refine ⟨⟨k + 1, rfl, hlt, k4.trans (k11.mono k4.size), ⟨old, k11.at b4 (at_lt b4), ho⟩, ?_⟩, by dsimp only; omega⟩
      rw [hg]; simp [mGet, Fl.pl, e]
  · have hk' : k = n := by
      have : ¬ (k : Int) < n := by simpa using hge
      omega
    rw [hk', List.drop_eq_nil_of_le (by have := hf.len; omega)] at hg
    refine svc_fl_own (f := ⟨s, none, 0, 0, []⟩) b4 ho fun h24 s24 b24 u24 => ⟨_, _, _, _, fb_all b24, ?_⟩
    have kk : Keep h.size h h24 := k4.trans (u24.keep k4.size fun i e => by omega)
    exact ⟨kk, ⟨s, none, 0, 0, []⟩, by rw [hg]; rfl, rfl, ⟨SlN.nil _ _ _, Nat.le_refl _⟩, by unfold pgs; rw [hg]; rfl⟩

/-- a list that is built beside a file's box. -/
structure BuildI (h H : Heap) (x : Fl) (a : Option Addr) (k c : Nat) (out : List Fl) : Prop where
  keep : Keep h.size h H
  box : H[h.size]? = some (flBox x)
  own : Own FlE 65 (h.size + 1) H a k c out
section
variable {h H H' : Heap} {x : Fl} {a : Option Addr} {k c : Nat} {out : List Fl}
theorem BuildI.keep' (p : BuildI h H x a k c out) (kk : Keep H.size H H') : BuildI h H' x a k c out :=
  ⟨p.keep.trans (kk.mono p.keep.size), kk.at p.box (at_lt p.box), p.own.upd (kk.upd fun _ => False) fun _ _ h => h⟩
theorem BuildI.lt (p : BuildI h H x a k c out) : h.size < H.size := at_lt p.box
theorem BuildI.add (p : BuildI h H x a k c out) (f : Fl) (hk : k ≤ 1073741824) {ty : TypeId} {K : Option Addr → Nat → Nat → Heap → Prop}
    (kk : ∀ a' c' H', BuildI h H' x a' (k + 1) c' (out ++ [f]) → (∀ q o, H[q]? = some o → ¬ blk a q → H'[q]? = some o) → H.size ≤ H'.size → (∀ q, blk a' q → blk a q ∨ H.size ≤ q) → K a' (k + 1) c' H') :
    SVC Try.prog (Instr.buildSlice 60 1 (Array.mk [(0, Value.agg (Array.mk [Value.string f.n, Value.slice f.a f.len f.cap]))])) H fun v18 h19 => ∃ (a20 : Option Addr), ∃ (k21 : Nat), ∃ (k22 : Nat), v18 = Value.slice a20 k21 k22 ∧
      SVC Try.prog (Builtin.append_ (Array.mk [60, 60]) ty (Array.mk [Value.slice a k c, Value.slice a20 k21 k22])) h19 fun v23 h24 => ∃ (a25 : Option Addr), ∃ (k26 : Nat), ∃ (k27 : Nat), v23 = Value.slice a25 k26 k27 ∧ K a25 k26 k27 h24 := by
  have hlt := p.lt
  refine svc_append1 (x := f) app_fl p.own hlt (bs_fl f) (by omega) fun a' c' H' o' u' b' => kk a' c' H' ⟨p.keep.trans (u'.keep p.keep.size fun i hi => by have := (p.own.block i hi).1; omega), u'.at p.box fun hb => by have := (p.own.block _ hb).1; omega, o'⟩ (fun q o hq hb => u'.at hq hb) u'.size b'
end
theorem goP_cons {α : Type} (nm : α → Str) (x : α) (d : Bool) (f : α) (F : List α) :
    goP nm x d (f :: F) = (if !d && !lt (nm f) (nm x) then [x] else []) ++ ((if decide (nm f = nm x) then [] else [f]) ++ goP nm x (d || !lt (nm f) (nm x)) F) := rfl
theorem mem_goP {α : Type} {nm : α → Str} {x y : α} : ∀ {F : List α} {d : Bool}, y ∈ goP nm x d F → y = x ∨ y ∈ F
  | [], d, h => by cases d <;> simp [goP] at h; exact .inl h
  | f :: F, d, h => by
    unfold goP at h
    rcases List.mem_append.1 h with h | h
    · split at h
      · simp at h; exact .inl h
      · cases h
    · rcases List.mem_append.1 h with h | h
      · split at h
        · cases h
        · simp at h; exact .inr (h ▸ List.mem_cons_self)
      · exact (mem_goP h).imp id (List.mem_cons_of_mem _)

set_option maxHeartbeats 1000000 in
theorem rput_spec {N : Nat → Prop} {h : Heap} {A : Option Addr} {n c : Nat} {fs : List Fl} {x : Fl} (hN : Nb N h) (hf : FsN N h A n fs) (hn : n ≤ 268435456) (hx : FlOk N h x) :
    HC Try.prog 94 #[.slice A n c, .agg #[.string x.n, .slice x.a x.len x.cap]] h fun v h' => Keep h.size h h' ∧ ∃ a k c', v = .slice a k c' ∧ FsN N h' a k (goP Fl.n x false fs) := by
  refine HC_of_vc (args := [.slice A n c, .agg #[.string x.n, .slice x.a x.len x.cap]]) (base := 45) (cuts := []) (bigs := []) hm Try.func94 ?_
  rw [vcPut]
  have fin : ∀ {H : Heap} {a : Option Addr} {k c : Nat}, BuildI h H x a k c (goP Fl.n x false fs) → Keep h.size h H ∧ ∃ a' k' c', Value.slice a k c = .slice a' k' c' ∧ FsN N H a' k' (goP Fl.n x false fs) := fun p =>
    ⟨p.keep, _, _, _, rfl, p.own.sln fun q hq => Nat.lt_succ_of_lt (hN q hq), fun f hm => ((mem_goP hm).elim (fun e => e ▸ hx) (hf.each f)).keep p.keep⟩
  refine ⟨fun a2 k3 k4 b5 n6 h7 => ∃ (k : Nat) (out : List Fl), n6 = k ∧ k ≤ n ∧ k3 ≤ 2 * k ∧ BuildI h h7 x a2 k3 k4 out ∧ out ++ goP Fl.n x b5 (fs.drop k) = goP Fl.n x false fs, fun _ _ _ _ n6 _ => n - n6.toNat,
    ⟨0, [], rfl, Nat.zero_le _, Nat.le_refl _, ⟨keep_push _ _, push_at _ _, Own.nil _ _ _⟩, rfl⟩, ?_⟩
  rintro a2 k3 k4 b5 n6 h7 ⟨k, out, rfl, hk, hk3, bi, hg⟩
  refine br_intro (fun hlt => ?_) (fun hge => ?_)
  · have hlt : k < n := by simpa using hlt
    obtain ⟨f, p, hx', hA, rd, ok⟩ := fs_at (hf.keep bi.keep) hlt
    rw [drop_at hx', goP_cons] at hg
    refine ⟨p, ⟨hA, by omega, by omega⟩, _, _, _, _, rd, svc_fl rfl ?_⟩
    have b14 := push_at h7 (flBox f)
    have i14 := bi.keep' (keep_push h7 (flBox f))
    have nb : ¬ blk a2 h7.size := fun hb => by have := (bi.own.block _ hb).2; omega
    have hsz := bi.lt
    refine ⟨_, fun _ => fb_name b14, _, fun _ => fb_name i14.box, br_intro (fun e => ?_) (fun e => ?_)⟩
    · have e1 : b5 = false := by cases b5 <;> simp at e ⊢
      have e2 : lt f.n x.n = false := by rw [e1] at e; simpa using e
      subst e1
      rw [e2] at hg
      refine ⟨_, _, _, _, fb_all i14.box, i14.add x (by omega) fun a' c' H' bi' ot sz bl => ⟨_, fb_name (ot _ _ b14 nb), _, fb_name bi'.box, ?_⟩⟩
      have nb' : ¬ blk a' h7.size := fun hb => (bl _ hb).elim nb fun hb => by rw [Array.size_push] at hb; omega
      refine br_intro (fun e => ?_) (fun e => ?_)
      · have e3 : ¬ f.n = x.n := fun h0 => by rw [eq_beq.2 h0] at e; cases e
        refine ⟨_, _, _, _, fb_all (ot _ _ b14 nb), bi'.add f (by omega) fun a2 c2 H2 bi2 ot2 sz2 bl2 => ?_⟩
        rw [wrap_i64 (by omega) (by omega)]
        refine ⟨⟨k + 1, _, rfl, hlt, by omega, bi2, ?_⟩, by dsimp only; omega⟩
        rw [← hg]; simp [e3]
      · have e3 : f.n = x.n := eq_beq.1 (by simpa using e)
        rw [wrap_i64 (by omega) (by omega)]
        refine ⟨⟨k + 1, _, rfl, hlt, by omega, bi', ?_⟩, by dsimp only; omega⟩
        rw [← hg]; simp [e3]
    · refine ⟨_, fb_name b14, _, fb_name i14.box, ?_⟩
      have e2 : (!b5 && !lt f.n x.n) = false := by simpa using e
      have e4 : (b5 || !lt f.n x.n) = b5 := by cases b5 <;> simp at e2 ⊢; exact e2
      rw [e2, e4] at hg
      refine br_intro (fun e => ?_) (fun e => ?_)
      · have e3 : ¬ f.n = x.n := fun h0 => by rw [eq_beq.2 h0] at e; cases e
        refine ⟨_, _, _, _, fb_all b14, i14.add f (by omega) fun a2 c2 H2 bi2 ot2 sz2 bl2 => ?_⟩
        rw [wrap_i64 (by omega) (by omega)]
        refine ⟨⟨k + 1, _, rfl, hlt, by omega, bi2, ?_⟩, by dsimp only; omega⟩
        rw [← hg]; simp [e3]
      · have e3 : f.n = x.n := eq_beq.1 (by simpa using e)
        rw [wrap_i64 (by omega) (by omega)]
        refine ⟨⟨k + 1, _, rfl, hlt, by omega, i14, ?_⟩, by dsimp only; omega⟩
        rw [← hg]; simp [e3]
  · have hk' : k = n := by
      have : ¬ (k : Int) < n := by simpa using hge
      omega
    rw [hk', List.drop_eq_nil_of_le (by have := hf.len; omega)] at hg
    refine br_intro (fun e => ?_) (fun e => ?_)
    · have e1 : b5 = false := by simpa using e
      subst e1
      refine ⟨_, _, _, _, fb_all bi.box, bi.add x (by omega) fun a2 c2 H2 bi2 ot2 sz2 bl2 => fin ?_⟩
      have : out ++ [x] = goP Fl.n x false fs := by rw [← hg]; rfl
      rw [← this]; exact bi2
    · have e1 : b5 = true := by simpa using e
      subst e1
      have : out = goP Fl.n x false fs := by rw [← hg]; simp [goP]
      rw [← this] at fin ⊢
      exact fin bi

set_option maxHeartbeats 1000000 in
theorem without_spec {N : Nat → Prop} {h : Heap} {A : Option Addr} {n c : Nat} {fs : List Fl} (hN : Nb N h) (hf : FsN N h A n fs) (hn : n ≤ 268435456) (s : Str) :
    HC Try.prog 99 #[.slice A n c, .string s] h fun v h' => Keep h.size h h' ∧ ∃ a k c', v = .slice a k c' ∧ FsN N h' a k (fs.filter fun f => decide (f.n ≠ s)) := by
  refine HC_of_vc (args := [.slice A n c, .string s]) (base := 24) (cuts := []) (bigs := []) hm Try.func99 ?_
  rw [vcWithout]
  refine ⟨fun a2 k3 k4 n5 h6 => ∃ (k : Nat), n5 = k ∧ k ≤ n ∧ k3 ≤ k ∧ Keep h.size h h6 ∧ Own FlE 65 h.size h6 a2 k3 k4 ((fs.take k).filter fun f => decide (f.n ≠ s)), fun _ _ _ n5 _ => n - n5.toNat,
    ⟨0, rfl, Nat.zero_le _, Nat.le_refl _, Keep.refl _ _, Own.nil _ _ _⟩, ?_⟩
  rintro a2 k3 k4 n5 h6 ⟨k, rfl, hk, hk3, k6, o6⟩
  refine br_intro (fun hlt => ?_) (fun hge => ?_)
  · have hlt : k < n := by simpa using hlt
    obtain ⟨f, p, hx, hA, rd, ok⟩ := fs_at (hf.keep k6) hlt
    refine ⟨p, ⟨hA, by omega, by omega⟩, _, _, _, _, rd, svc_fl rfl ?_⟩
    have b13 := push_at h6 (flBox f)
    have k13 := keep_push h6 (flBox f)
    have kk : Keep h.size h (h6.push (flBox f)) := k6.trans (k13.mono k6.size)
    have o13 := o6.upd (k13.upd fun _ => False) fun _ _ h => h
    have htk : fs.take (k + 1) = fs.take k ++ [f] := by
      obtain ⟨hk1, e⟩ := List.getElem?_eq_some_iff.1 hx
      rw [List.take_succ_eq_append_getElem hk1, e]
    refine ⟨_, fb_name b13, br_intro (fun e => ?_) (fun e => ?_)⟩
    · have e3 : ¬ f.n = s := fun h0 => by rw [eq_beq.2 h0] at e; cases e
      refine ⟨_, _, _, _, fb_all b13, svc_append1 (x := f) app_fl o13 kk.size (bs_fl f) (by omega) fun a' c' H' o' u' b' => ?_⟩
      rw [wrap_i64 (by omega) (by omega)]
      refine ⟨⟨k + 1, rfl, hlt, by omega, kk.trans (u'.keep kk.size fun i hi => (o13.block i hi).1), ?_⟩, by dsimp only; omega⟩
      rw [htk, List.filter_append]; simpa [List.filter_cons, e3] using o'
    · have e3 : f.n = s := eq_beq.1 (by simpa using e)
      rw [wrap_i64 (by omega) (by omega)]
      refine ⟨⟨k + 1, rfl, hlt, by omega, kk, ?_⟩, by dsimp only; omega⟩
      rw [htk, List.filter_append]; simpa [List.filter_cons, e3] using o13
  · have hk' : k = n := by
      have : ¬ (k : Int) < n := by simpa using hge
      omega
    rw [hk', List.take_of_length_le (by have := hf.len; omega)] at o6
    exact ⟨k6, _, _, _, rfl, o6.sln hN, fun f hm => (hf.each f (List.mem_filter.1 hm).1).keep k6⟩
end Go.Proofs.Ytembbemljejjbaa
set_option linter.unusedVariables false
set_option linter.unusedSimpArgs false
set_option maxRecDepth 100000
namespace Go.Proofs.Ytembbemljejjbaa
open Go Go.Vc Go.Proofs Go.Dk

theorem fl_at {N : Nat → Prop} {h : Heap} {f : Fl} (hf : FlOk N h f) {k : Nat} {s : Str} (hk : f.pages[k]? = some s) : ∃ p, f.a = some p ∧ Reads Try.prog (Instr.loadAt 9 (.pointer (some (p.add (k * 1))))) h (.string s) := reads_s hf.sl.sl hk

set_option maxHeartbeats 1000000 in
theorem rset_spec {N : Nat → Prop} {h : Heap} {f : Fl} (hN : Nb N h) (hf : FlOk N h f) {i : Int} (hi : 0 ≤ i ∧ i ≤ 1073741824) (hl : f.len ≤ 1073741824) (p : Str) :
    HC Try.prog 95 #[.agg #[.string f.n, .slice f.a f.len f.cap], .int .i64 i, .string p] h fun v h' => Keep h.size h h' ∧ ∃ g : Fl, v = g.val ∧ g.n = f.n ∧ FlOk N h' g ∧ g.pages = setP f.pages i.toNat p := by
  obtain ⟨hi0, hi1⟩ := hi
  obtain ⟨i, rfl⟩ := Int.eq_ofNat_of_zero_le hi0
  refine HC_of_vc (args := [.agg #[.string f.n, .slice f.a f.len f.cap], .int .i64 i, .string p]) (base := 29) (cuts := []) (bigs := []) hm Try.func95 ?_
  rw [vcRset]
  generalize hH : ((Array.push h (Obj.cells (Array.mk [Value.string f.n, Value.slice f.a f.len f.cap]) 65)).push (Obj.cells (Array.mk [Value.string (ByteArray.mk (Array.mk [])), Value.slice none 0 0]) 65)) = H
  have b0 : H[h.size]? = some (flBox f) := by rw [← hH]; exact push2_0 _ _ _
  have b1 : H[h.size + 1]? = some (flBox ⟨⟨#[]⟩, none, 0, 0, []⟩) := by rw [← hH]; exact push2_1 _ _ _
  have kH : Keep h.size h H := by rw [← hH]; exact (keep_push h _).trans (Keep.push _ _ _ (by simp))
  have sH : H.size = h.size + 2 := by rw [← hH]; simp
  clear hH
  simp only [Array.size_push]
  have hlen := hf.sl.len
  refine svc_empty_of app_ss fun ow => ⟨_, _, _, rfl, ?_⟩
  have k1 := keep_push H (.cells #[] 9 (0, 0))
  refine ⟨_, _, _, fb_pages (k1.at b0 (by omega)), ?_⟩
  refine svc_append app_ss ow (by rw [Array.size_push]; omega) ((hf.sl.sl.keep (kH.trans (k1.mono kH.size)))) (by omega) fun a' c' h9 o9 u9 bl9 => ⟨_, _, _, rfl, ?_⟩
  rw [Nat.zero_add] at o9 ⊢
  simp only [List.nil_append] at o9
  have ne : ∀ q, blk (some ⟨H.size, 0, none⟩) q → H.size ≤ q := fun q hq => (ow.block q hq).1
  have at9 : ∀ {q : Nat} {o : Obj}, q < H.size → H[q]? = some o → h9[q]? = some o := fun hq ho => u9.at (k1.at ho hq) fun hb => by have := ne _ hb; omega
  have k9 : Keep h.size h h9 := kH.trans ((k1.mono kH.size).trans (u9.keep (by rw [Array.size_push]; omega) fun q hq => by have := ne _ hq; omega))
  have s9 : H.size < h9.size := by have := u9.size; rw [Array.size_push] at this; omega
  refine ⟨fun a k c h18 => ∃ j : Nat, j ≤ i + 1 - f.len ∧ k = f.len + j ∧ Keep h.size h h18 ∧ h18[h.size]? = some (flBox f) ∧ h18[h.size + 1]? = some (flBox ⟨⟨#[]⟩, none, 0, 0, []⟩) ∧ Own StrE 9 H.size h18 a k c (f.pages ++ List.replicate j zp),
    fun _ k _ _ => i + 1 - k, ⟨0, Nat.zero_le _, rfl, k9, at9 (by omega) b0, at9 (by omega) b1, by simpa using o9⟩, ?_⟩
  rintro a k c h18 ⟨j, hj, rfl, k18, b18, d18, o18⟩
  have s18 : H.size ≤ h18.size := by rw [sH]; exact Nat.lt_of_lt_of_le (at_lt d18) (Nat.le_refl _)
  refine br_intro (fun e => ?_) (fun e => ?_)
  · have e := of_decide_eq_true e
    have e : f.len + j ≤ i := by omega
    refine svc_noughts (n := 512) (Nat.le_refl _) fun h20 k20 z20 sl20 => ⟨_, _, _, rfl, _, reads_string undBs undB undS sl20, ?_⟩
    have o20 := o18.upd (k20.upd fun _ => False) fun _ _ h => h
    refine svc_append1 (x := zp) app_ss o20 (Nat.le_trans s18 k20.size) (by rw [zp_of]; exact bs_s zp) (by omega) fun a' c' H' o' u' b' => ?_
    have ne2 : ∀ q, blk a q → H.size ≤ q := fun q hq => (o20.block q hq).1
    refine ⟨⟨j + 1, by omega, rfl, k18.trans ((k20.mono k18.size).trans (u'.keep (Nat.le_trans k18.size k20.size) fun q hq => by have := ne2 q hq; omega)), ?_, ?_, ?_⟩, by dsimp only; omega⟩
    · exact u'.at (k20.at b18 (at_lt b18)) fun hb => by have := ne2 _ hb; omega
    · exact u'.at (k20.at d18 (at_lt d18)) fun hb => by have := ne2 _ hb; omega
    · rw [List.replicate_succ', ← List.append_assoc]; exact o'
  · have e : i < f.len + j := by
      have := of_decide_eq_false e
      omega
    have hj' : j = i + 1 - f.len := by omega
    have hc : ∃ b cells, a = some ⟨b, 0, none⟩ ∧ H.size ≤ b ∧ h18[b]? = some (.cells cells 9 (0, 0)) ∧ cells.size = c * 1 ∧ ∃ rest, cells.toList = (f.pages ++ List.replicate j zp).flatMap StrE.enc ++ rest := by
      rcases o18.2.2 with ⟨_, h0⟩ | h0
      · have := o18.2.1; omega
      · exact h0
    obtain ⟨b, cells, rfl, hb, hcell, hcs, rest, hrest⟩ := hc
    have hkc := o18.2.1
    have hll := o18.1
    refine ⟨⟨b, 0, none⟩, ⟨rfl, by omega, by omega⟩, ?_⟩
    have ea : ((⟨b, 0, none⟩ : Addr).add ((i : Int).toNat * 1)) = (⟨b, 0, none⟩ : Addr).add i := by simp
    rw [ea]
    refine svc_store_box szS hcell (by omega) rfl (one_string _) fun h37 s37 b37 u37 => ?_
    have o37 : Own StrE 9 H.size h37 (some ⟨b, 0, none⟩) (f.len + j) c (setP f.pages i p) := by
      refine ⟨?_, hkc, .inr ⟨b, _, rfl, hb, b37, by rw [List.size_toArray, List.length_set, Array.length_toList]; exact hcs, rest, ?_⟩⟩
      · simp [setP]; omega
      · have hput := putL_flat (E := StrE) (f.pages ++ List.replicate j zp) rest i p (by omega)
        have : StrE.sz = 1 := rfl
        rw [this, Nat.mul_one] at hput
        simp only [hrest]
        show (((f.pages ++ List.replicate j zp).flatMap StrE.enc ++ rest).set i (.string p)) = _
        have : setP f.pages i p = (f.pages ++ List.replicate j zp).set i p := by unfold setP; rw [hlen, hj']
        rw [this, ← hput]
        rfl
    have b37' := u37.at b18 (show ¬ h.size = b by omega)
    have d37' := u37.at d18 (show ¬ h.size + 1 = b by omega)
    refine ⟨_, fb_name b37', svc_fl_own (f := ⟨f.n, some ⟨b, 0, none⟩, f.len + j, c, setP f.pages i p⟩) d37' rfl fun h40 s40 b40 u40 => ⟨_, _, _, _, fb_all b40, ?_⟩⟩
    have k40 : Keep h.size h h40 := k18.trans ((u37.keep k18.size fun q e => by omega).trans (u40.keep (by omega) fun q e => by omega))
    have o40 := o37.upd u40 fun q hq e => by have := (o37.block q hq).1; omega
    exact ⟨k40, _, rfl, rfl, ⟨o40.sln fun q hq => by have := hN q hq; omega, hkc⟩, rfl⟩

set_option maxHeartbeats 1000000 in
theorem rshort_spec {N : Nat → Prop} {h : Heap} {f : Fl} (hN : Nb N h) (hf : FlOk N h f) (hl : f.len ≤ 1073741824) {n : Nat} :
    HC Try.prog 98 #[.agg #[.string f.n, .slice f.a f.len f.cap], .int .i64 n] h fun v h' => Keep h.size h h' ∧ ∃ g : Fl, v = g.val ∧ g.n = f.n ∧ FlOk N h' g ∧ g.pages = f.pages.take n := by
  refine HC_of_vc (args := [.agg #[.string f.n, .slice f.a f.len f.cap], .int .i64 n]) (base := 18) (cuts := []) (bigs := []) hm Try.func98 ?_
  rw [vcRshort]
  generalize hH : ((Array.push h (Obj.cells (Array.mk [Value.string f.n, Value.slice f.a f.len f.cap]) 65)).push (Obj.cells (Array.mk [Value.string (ByteArray.mk (Array.mk [])), Value.slice none 0 0]) 65)) = H
  have b0 : H[h.size]? = some (flBox f) := by rw [← hH]; exact push2_0 _ _ _
  have b1 : H[h.size + 1]? = some (flBox ⟨⟨#[]⟩, none, 0, 0, []⟩) := by rw [← hH]; exact push2_1 _ _ _
  have kH : Keep h.size h H := by rw [← hH]; exact (keep_push h _).trans (Keep.push _ _ _ (by simp))
  have sH : H.size = h.size + 2 := by rw [← hH]; simp
  clear hH
  simp only [Array.size_push]
  have hlen := hf.sl.len
  have hcap := hf.cap
  refine ⟨_, _, _, fb_pages b0, br_intro (fun e => ?_) (fun e => ?_)⟩
  · have e := of_decide_eq_true e
    have e : n < f.len := by omega
    refine svc_empty_of app_ss fun ow => ⟨_, _, _, rfl, ?_⟩
    have k1 := keep_push H (.cells #[] 9 (0, 0))
    refine ⟨_, _, _, fb_pages (k1.at b0 (by omega)), ⟨by omega, by omega, by omega⟩, ?_⟩
    have hsl : Sl StrE (H.push (.cells #[] 9 (0, 0))) f.a (n : Int).toNat (f.pages.take n) := by
      have := (hf.sl.sl.keep (kH.trans (k1.mono kH.size)))
      rw [Int.toNat_natCast]
      refine ⟨by rw [List.length_take]; omega, this.2.imp (fun e => by rw [e]; simp) fun ⟨p, e, hp⟩ => ⟨p, e, fun i x hx j v hv => hp i x ?_ j v hv⟩⟩
      rw [List.getElem?_take] at hx
      split at hx
      · exact hx
      · cases hx
    refine svc_append app_ss ow (by rw [Array.size_push]; omega) hsl (by rw [Int.toNat_natCast]; omega) fun a' c' h9 o9 u9 bl9 => ⟨_, _, _, rfl, ?_⟩
    rw [Nat.zero_add, Int.toNat_natCast] at o9
    simp only [List.nil_append] at o9
    have ne : ∀ q, blk (some ⟨H.size, 0, none⟩) q → H.size ≤ q := fun q hq => (ow.block q hq).1
    have at9 : ∀ {q : Nat} {o : Obj}, q < H.size → H[q]? = some o → h9[q]? = some o := fun hq ho => u9.at (k1.at ho hq) fun hb => by have := ne _ hb; omega
    have k9 : Keep h.size h h9 := kH.trans ((k1.mono kH.size).trans (u9.keep (by rw [Array.size_push]; omega) fun q hq => by have := ne _ hq; omega))
    have s9 : H.size < h9.size := by have := u9.size; rw [Array.size_push] at this; omega
    refine svc_store_box szSs (at9 (by omega) b0) (by show 1 < 2; decide) rfl (one_slice _ _ _) fun h17 s17 b17 u17 => ?_
    rw [Nat.zero_add, Int.toNat_natCast] at b17
    let g : Fl := ⟨f.n, a', n, c', f.pages.take n⟩
    have b17' : h17[h.size]? = some (flBox g) := b17
    have d17 := u17.at (at9 (by omega) b1) (show ¬ h.size + 1 = h.size by omega)
    refine ⟨_, _, _, _, fb_all b17', svc_fl_own (f := g) d17 rfl fun h23 s23 b23 u23 => ⟨_, _, _, _, fb_all b23, ?_⟩⟩
    have k23 : Keep h.size h h23 := k9.trans ((u17.keep k9.size fun q e => by omega).trans (u23.keep (by omega) fun q e => by omega))
    have o23 := (o9.upd u17 fun q hq e => by have := (o9.block q hq).1; omega).upd u23 fun q hq e => by have := (o9.block q hq).1; omega
    exact ⟨k23, g, rfl, rfl, ⟨o23.sln fun q hq => by have := hN q hq; omega, o9.2.1⟩, rfl⟩
  · have e := of_decide_eq_false e
    have e : f.len ≤ n := by omega
    refine ⟨_, _, _, _, fb_all b0, svc_fl_own (f := f) b1 rfl fun h33 s33 b33 u33 => ⟨_, _, _, _, fb_all b33, ?_⟩⟩
    have k33 : Keep h.size h h33 := kH.trans (u33.keep kH.size fun q e => by omega)
    exact ⟨k33, f, rfl, rfl, hf.keep k33, by rw [List.take_of_length_le (by omega)]⟩

/- ------------------------------------------------------------------ on the reference itself -/
section
variable {h : Heap} {m : Nat} {x : D} {N : Nat → Prop}
theorem ract_spec (hr : RefAt h m x N) (ok : Ok x) : HC Try.prog 93 #[.pointer (some ⟨m, 0, none⟩)] h fun v h' => RefAt h' m (act x) N ∧ Upd (fun q => q = m) h h' ∧ v = .bool (goes x) := by
  obtain ⟨A1, n1, c1, f1, A2, n2, c2, f2, A3, n3, c3, hp⟩ := hr
  refine HC_of_vc (args := [.pointer (some ⟨m, 0, none⟩)]) (base := 27) (cuts := []) (bigs := []) hm Try.func93 ?_
  rw [vcRact]
  have hf := ok.fuse
  refine ⟨_, rfl, _, reads_load scI (hp.rd rfl), _, rfl, svc_store_box szI hp.box (by simp [refC]) rfl (one_int _ _) fun h4 s4 b4 u4 => ⟨_, rfl, x.fuse, reads_load scI (cell_cells b4 (by simp [refC])), ?_⟩⟩
  refine br_intro (fun e => ?_) (fun e => ?_)
  · have e : x.fuse = 0 := by simpa using e
    exact ⟨⟨_, _, _, _, _, _, _, _, _, _, _, hp.same (act x) u4 b4 (by simp [refC, act, e]) rfl rfl rfl⟩, u4, by simp [goes, e]⟩
  · have e : x.fuse ≠ 0 := by simpa using e
    have hw : IntKind.i64.wrap ((x.fuse : Int) - 1) = ((x.fuse - 1 : Nat) : Int) := by rw [wrap_i64 (by omega) (by omega)]; omega
    refine ⟨_, rfl, x.fuse, reads_load scI (cell_cells b4 (by simp [refC])), _, rfl, svc_store_box szI b4 (by simp [refC]) rfl (one_int _ _) fun h11 s11 b11 u11 => ⟨_, rfl, (x.fuse - 1 : Nat), reads_load scI (cell_cells b11 (by simp [refC, hw])), ?_⟩⟩
    refine ⟨⟨_, _, _, _, _, _, _, _, _, _, _, hp.same (act x) (u4.trans u11) b11 (by simp [refC, act, hw]) rfl rfl rfl⟩, u4.trans u11, ?_⟩
    congr 1
    unfold goes
    by_cases h1 : x.fuse = 1
    · rw [h1]; rfl
    · rw [beq_eq_false_iff_ne.2 h1, beq_eq_false_iff_ne]; omega
theorem rarm_spec (hr : RefAt h m x N) (n k : Int) : HC Try.prog 70 #[.pointer (some ⟨m, 0, none⟩), .int .i64 n, .int .u64 k] h fun v h' => RefAt h' m (arm x n k) N ∧ Upd (fun q => q = m) h h' ∧ v = .tuple #[] := by
  obtain ⟨A1, n1, c1, f1, A2, n2, c2, f2, A3, n3, c3, hp⟩ := hr
  refine HC_of_vc (args := [.pointer (some ⟨m, 0, none⟩), .int .i64 n, .int .u64 k]) (base := 19) (cuts := []) (bigs := []) hm Try.func70 ?_
  rw [vcRarm]
  refine ⟨_, rfl, svc_store_box szI hp.box (by simp [refC]) rfl (one_int _ _) fun h2 s2 b2 u2 => br_intro (fun e => ?_) (fun e => ?_)⟩
  · have e := of_decide_eq_true e
    refine ⟨_, rfl, svc_store_box szI b2 (by simp [refC]) rfl (one_int _ _) fun h5 s5 b5 u5 => ⟨_, rfl, svc_store_box szU b5 (by simp [refC]) rfl (one_int _ _) fun h8 s8 b8 u8 => ?_⟩⟩
    have : n = (n.toNat : Int) := by omega
    exact ⟨⟨_, _, _, _, _, _, _, _, _, _, _, hp.same (arm x n k) ((u2.trans u5).trans u8) b8 (by simp [refC, arm]; omega) rfl rfl rfl⟩, (u2.trans u5).trans u8, rfl⟩
  · have e := of_decide_eq_false e
    refine ⟨_, rfl, svc_store_box szU b2 (by simp [refC]) rfl (one_int _ _) fun h8 s8 b8 u8 => ?_⟩
    have : (0 : Int) = (n.toNat : Int) := by omega
    exact ⟨⟨_, _, _, _, _, _, _, _, _, _, _, hp.same (arm x n k) (u2.trans u8) b8 (by simp [refC, arm]; omega) rfl rfl rfl⟩, u2.trans u8, rfl⟩
theorem rnew_spec (h : Heap) (room : Int) (N : Nat → Prop) : HC Try.prog 28 #[.int .i64 room] h fun v h' => Keep h.size h h' ∧ h'.size = h.size + 1 ∧ v = .pointer (some ⟨h.size, 0, none⟩) ∧ RefAt h' h.size (new room) (fun q => N q ∨ q = h.size) := by
  refine HC_of_vc (args := [.int .i64 room]) (base := 10) (cuts := []) (bigs := []) hm Try.func28 ?_
  rw [vcRnew]
  have fin : ∀ r : Int, r = ((new room).room : Int) → Keep h.size h (h.push (Obj.cells (Array.mk [Value.slice none 0 0, Value.slice none 0 0, Value.slice none 0 0, Value.int IntKind.i64 r, Value.bool false, Value.int IntKind.i64 0, Value.int IntKind.i64 0, Value.int IntKind.u64 0]) 63)) ∧
      (h.push (Obj.cells (Array.mk [Value.slice none 0 0, Value.slice none 0 0, Value.slice none 0 0, Value.int IntKind.i64 r, Value.bool false, Value.int IntKind.i64 0, Value.int IntKind.i64 0, Value.int IntKind.u64 0]) 63)).size = h.size + 1 ∧
      Value.pointer (some ⟨h.size, 0, none⟩) = .pointer (some ⟨h.size, 0, none⟩) ∧ RefAt (h.push (Obj.cells (Array.mk [Value.slice none 0 0, Value.slice none 0 0, Value.slice none 0 0, Value.int IntKind.i64 r, Value.bool false, Value.int IntKind.i64 0, Value.int IntKind.i64 0, Value.int IntKind.u64 0]) 63)) h.size (new room) (fun q => N q ∨ q = h.size) := fun r hr => by
    subst hr
    exact ⟨keep_push _ _, by simp, rfl, none, 0, 0, [], none, 0, 0, [], none, 0, 0, push_at _ _, FsN.nil _ _ _, rfl, FsN.nil _ _ _, rfl, SlN.nil _ _ _, .inr rfl⟩
  have hr : ((new room).room : Int) = ((min (max room 0) 4096).toNat : Int) := rfl
  refine br_intro (fun e => ?_) (fun e => br_intro (fun e2 => ?_) (fun e2 => ?_))
  · have e := of_decide_eq_true e; exact fin _ (by rw [hr]; omega)
  · have e := of_decide_eq_false e; have e2 := of_decide_eq_true e2; exact fin _ (by rw [hr]; omega)
  · have e := of_decide_eq_false e; have e2 := of_decide_eq_false e2; exact fin _ (by rw [hr]; omega)
theorem tot_append (a b : Fs) : tot (a ++ b) = tot a + tot b := by simp [tot]
theorem rfree_spec (hr : RefAt h m x N) (ok : Ok x) (hn : x.now.length ≤ 1073741824) : HC Try.prog 74 #[.pointer (some ⟨m, 0, none⟩)] h fun v h' => Keep h.size h h' ∧ v = .int .i64 (free x) := by
  obtain ⟨A1, n1, c1, f1, A2, n2, c2, f2, A3, n3, c3, hp⟩ := hr
  refine HC_of_vc (args := [.pointer (some ⟨m, 0, none⟩)]) (base := 26) (cuts := []) (bigs := []) hm Try.func74 ?_
  rw [vcRfree]
  have hl := hp.now.len
  have hl2 : x.now.length = f1.length := by rw [← hp.nowE, List.length_map]
  have htt : tot (f1.map Fl.pl) ≤ 4096 := by rw [hp.nowE]; have := ok.tot; have := ok.room; omega
  refine ⟨_, rfl, _, reads_load scI (hp.rd rfl), _, rfl, A1, n1, c1, reads_load scFs (cell_cells0 hp.box rfl), ?_⟩
  refine ⟨fun n8 n9 h10 => ∃ k : Nat, n9 = k ∧ k ≤ n1 ∧ Keep h.size h h10 ∧ n8 = x.room - tot ((f1.take k).map Fl.pl), fun _ n9 _ => n1 - n9.toNat, ⟨0, rfl, Nat.zero_le _, Keep.refl _ _, by simp [tot]⟩, ?_⟩
  rintro n8 n9 h10 ⟨k, rfl, hk, k10, rfl⟩
  refine br_intro (fun hlt => ?_) (fun hge => ?_)
  · have hlt := of_decide_eq_true hlt
    have hlt : k < n1 := by omega
    obtain ⟨f, p, hx, hA, rd, okf⟩ := fs_at (hp.now.keep k10) hlt
    refine ⟨p, ⟨hA, by omega, by omega⟩, _, _, _, _, rd, svc_fl rfl ?_⟩
    have b17 := push_at h10 (flBox f)
    have k17 := keep_push h10 (flBox f)
    have htk : f1.take (k + 1) = f1.take k ++ [f] := by
      obtain ⟨hk1, e⟩ := List.getElem?_eq_some_iff.1 hx
      rw [List.take_succ_eq_append_getElem hk1, e]
    have h1 : tot ((f1.take (k + 1)).map Fl.pl) = tot ((f1.take k).map Fl.pl) + f.len := by
      rw [htk, List.map_append, tot_append, ← okf.sl.len]; simp [tot, Fl.pl]
    have h2 : tot ((f1.take (k + 1)).map Fl.pl) ≤ tot (f1.map Fl.pl) := by
      have : tot (f1.map Fl.pl) = tot ((f1.take (k + 1)).map Fl.pl) + tot ((f1.drop (k + 1)).map Fl.pl) := by rw [← tot_append, ← List.map_append, List.take_append_drop]
      omega
    refine ⟨_, _, _, fb_pages b17, ?_⟩
    have hroom := ok.room
    rw [wrap_i64 (by omega) (by omega), wrap_i64 (by omega) (by omega)]
    exact ⟨⟨k + 1, rfl, hlt, k10.trans (k17.mono k10.size), by rw [h1]; omega⟩, by dsimp only; omega⟩
  · have hge := of_decide_eq_false hge
    have hk' : k = n1 := by omega
    refine ⟨k10, ?_⟩
    rw [hk', List.take_of_length_le (by omega), hp.nowE]
    rfl
end
end Go.Proofs.Ytembbemljejjbaa
set_option linter.unusedVariables false
set_option linter.unusedSimpArgs false
set_option maxRecDepth 100000
namespace Go.Proofs.Ytembbemljejjbaa
open Go Go.Vc Go.Proofs Go.Dk

abbrev rwV (w : Wt) : Value := .agg (Array.mk [Value.string w.n, Value.int .i64 w.i, Value.string w.p])
abbrev rwBox (w : Wt) : Obj := .cells (Array.mk [Value.string w.n, Value.int .i64 w.i, Value.string w.p]) 141 (0, 0)
theorem rw_at {N : Nat → Prop} {h : Heap} {A : Option Addr} {n k : Nat} {ws : List Wt} (hf : SlN RwE N h A n ws) (hk : k < n) :
    ∃ w p, ws[k]? = some w ∧ A = some p ∧ Reads Try.prog (Instr.loadAt 141 (.pointer (some (p.add (k * 3))))) h (rwV w) := by
  have hl := hf.len
  have hx : ws[k]? = some (ws[k]'(by omega)) := List.getElem?_eq_getElem (by omega)
  obtain ⟨p, e, hp⟩ := hf.row hx
  exact ⟨_, p, hx, e, reads_load_agg agRw rfl hp⟩
theorem one_rw (w : Wt) : oneCells (rwV w).cells.toList := fun v hv => RwE.one w v hv
theorem svc_rw {w : Wt} {h : Heap} {old : Array Value} {K : Unit → Heap → Prop} (ho : old.size = 3) (k : K () (h.push (rwBox w))) :
    SVC Try.prog (Instr.storeAt 141 (.pointer (some ⟨h.size, 0, none⟩)) (.agg (Array.mk [Value.string w.n, Value.int .i64 w.i, Value.string w.p]))) (h.push (.cells old 141 (0, 0))) K :=
  svc_store_new (v := rwV w) szWr ho (one_rw w) k
section
variable {w : Wt} {h : Heap} {b : Nat}
theorem wb_name (hb : h[b]? = some (rwBox w)) : Reads Try.prog (Instr.loadAt 9 (.pointer (some ⟨b, 0, none⟩))) h (.string w.n) := reads_load scS (cell_cells0 hb rfl)
theorem wb_page (hb : h[b]? = some (rwBox w)) : Reads Try.prog (Instr.loadAt 3 (.pointer (some ((⟨b, 0, none⟩ : Addr).add 1)))) h (.int .i64 w.i) := reads_load scI (cell_cells hb rfl)
theorem wb_data (hb : h[b]? = some (rwBox w)) : Reads Try.prog (Instr.loadAt 9 (.pointer (some ((⟨b, 0, none⟩ : Addr).add 2)))) h (.string w.p) := reads_load scS (cell_cells hb rfl)
theorem wb_all (hb : h[b]? = some (rwBox w)) : Reads Try.prog (Instr.loadAt 141 (.pointer (some ⟨b, 0, none⟩))) h (.agg (Array.mk [Value.string w.n, Value.int .i64 w.i, Value.string w.p])) :=
  reads_load_agg (cs := [Value.string w.n, Value.int .i64 w.i, Value.string w.p]) agRw rfl (cells_all hb)
end

section
variable {h : Heap} {m : Nat} {x : D} {N : Nat → Prop}
theorem names_pl (fs : List Fl) : names (fs.map Fl.pl) = fs.map Fl.n := by unfold names mKeys; rw [List.map_map]; rfl
set_option maxHeartbeats 1000000 in
theorem rnames_spec (hr : RefAt h m x N) (hn : x.now.length ≤ 1073741824) : HC Try.prog 73 #[.pointer (some ⟨m, 0, none⟩)] h fun v h' => Keep h.size h h' ∧ ∃ a k c, v = .slice a k c ∧ Sl StrE h' a k (namesD x) := by
  obtain ⟨A1, n1, c1, f1, A2, n2, c2, f2, A3, n3, c3, hp⟩ := hr
  refine HC_of_vc (args := [.pointer (some ⟨m, 0, none⟩)]) (base := 26) (cuts := []) (bigs := []) hm Try.func73 ?_
  rw [vcRnames]
  have hl := hp.now.len
  have hl2 : x.now.length = f1.length := by rw [← hp.nowE, List.length_map]
  refine ⟨_, rfl, _, reads_load scB (hp.rd rfl), br_intro (fun e => ?_) (fun e => ?_)⟩
  · exact ⟨Keep.refl _ _, _, _, _, rfl, by unfold namesD; rw [if_pos e]; exact Sl.nil _ _⟩
  refine ⟨_, rfl, A1, n1, c1, reads_load scFs (cell_cells0 hp.box rfl), ?_⟩
  refine ⟨fun a k c n11 h12 => ∃ j : Nat, n11 = j ∧ j ≤ n1 ∧ k = j ∧ Keep h.size h h12 ∧ Own StrE 9 h.size h12 a k c ((f1.take j).map Fl.n), fun _ _ _ n11 _ => n1 - n11.toNat,
    ⟨0, rfl, Nat.zero_le _, rfl, Keep.refl _ _, Own.nil _ _ _⟩, ?_⟩
  rintro a k c n11 h12 ⟨j, rfl, hj, rfl, k12, o12⟩
  refine br_intro (fun hlt => ?_) (fun hge => ?_)
  · have hlt := of_decide_eq_true hlt
    have hlt : k < n1 := by omega
    obtain ⟨f, p, hx, hA, rd, okf⟩ := fs_at (hp.now.keep k12) hlt
    refine ⟨p, ⟨hA, by omega, by omega⟩, _, _, _, _, rd, svc_fl rfl ?_⟩
    have b19 := push_at h12 (flBox f)
    have k19 := keep_push h12 (flBox f)
    have kk : Keep h.size h (h12.push (flBox f)) := k12.trans (k19.mono k12.size)
    have o19 := o12.upd (k19.upd fun _ => False) fun _ _ h => h
    have htk : f1.take (k + 1) = f1.take k ++ [f] := by
      obtain ⟨hk1, e⟩ := List.getElem?_eq_some_iff.1 hx
      rw [List.take_succ_eq_append_getElem hk1, e]
    refine ⟨_, fb_name b19, svc_append1 (x := f.n) app_ss o19 kk.size (bs_s f.n) (by omega) fun a' c' H' o' u' b' => ?_⟩
    rw [wrap_i64 (by omega) (by omega)]
    exact ⟨⟨k + 1, rfl, hlt, rfl, kk.trans (u'.keep kk.size fun q hq => (o19.block q hq).1), by rw [htk, List.map_append]; exact o'⟩, by dsimp only; omega⟩
  · have hge := of_decide_eq_false hge
    have hk' : k = n1 := by omega
    refine ⟨k12, _, _, _, rfl, ?_⟩
    unfold namesD
    rw [if_neg (by rw [e]; decide), ← hp.nowE, names_pl]
    rw [hk', List.take_of_length_le (by omega)] at o12
    rw [hk']; exact o12.sl
set_option maxHeartbeats 1000000 in
theorem rread_spec (hr : RefAt h m x N) (hn : x.now.length ≤ 1073741824) (s : Str) (i : Int) :
    HC Try.prog 64 #[.pointer (some ⟨m, 0, none⟩), .string s, .int .i64 i] h fun v h' => Keep h.size h h' ∧ v = .tuple #[.string (Dk.read x s i).1, .int .i64 (Dk.read x s i).2] := by
  obtain ⟨A1, n1, c1, f1, A2, n2, c2, f2, A3, n3, c3, hp⟩ := hr
  refine HC_of_vc (args := [.pointer (some ⟨m, 0, none⟩), .string s, .int .i64 i]) (base := 37) (cuts := []) (bigs := []) hm Try.func64 ?_
  rw [vcRread]
  have hl := hp.now.len
  have hl2 : x.now.length = f1.length := by rw [← hp.nowE, List.length_map]
  refine ⟨_, rfl, _, reads_load scB (hp.rd rfl), br_intro (fun e => ?_) (fun e => ?_)⟩
  · exact ⟨Keep.refl _ _, by simp only [Dk.read, e, if_true]⟩
  refine ⟨_, rfl, A1, n1, c1, reads_load scFs (cell_cells0 hp.box rfl), (get_spec (c := c1) hp.now (by omega) s).mono ?_⟩
  rintro v h7 ⟨k7, f, rfl, hfn, okf, hpg⟩
  refine ⟨_, _, _, _, _, rfl, svc_fl rfl ?_⟩
  rw [hp.nowE] at hpg
  have b14 := push_at h7 (flBox f)
  have k14 := keep_push h7 (flBox f)
  have kk : Keep h.size h (h7.push (flBox f)) := k7.trans (k14.mono k7.size)
  have hlen := okf.sl.len
  refine ⟨_, _, _, fun _ => fb_pages b14, br_intro (fun e2 => ?_) (fun e2 => ?_)⟩
  · have e2 : i < 0 ∨ (f.len : Int) ≤ i := by simpa using e2
    refine ⟨kk, ?_⟩
    have : i < 0 ∨ ((pgs x.now s).length : Int) ≤ i := by rw [← hpg, hlen]; exact e2
    simp only [Dk.read, e, Bool.false_eq_true, if_false, if_pos this]
  · have e2 : ¬ (i < 0 ∨ (f.len : Int) ≤ i) := by simpa using e2
    have h0 : 0 ≤ i := by omega
    obtain ⟨i, rfl⟩ := Int.eq_ofNat_of_zero_le h0
    have hx : f.pages[i]? = some (f.pages[i]'(by omega)) := List.getElem?_eq_getElem (by omega)
    obtain ⟨p, hA, hrd⟩ := fl_at (okf.keep k14) hx
    refine ⟨_, _, _, fb_pages b14, p, ⟨hA, by omega, by omega⟩, _, hrd, kk, ?_⟩
    have : ¬ ((i : Int) < 0 ∨ ((pgs x.now s).length : Int) ≤ i) := by rw [← hpg, hlen]; exact e2
    simp only [Dk.read, e, Bool.false_eq_true, if_false, if_neg this]
    rw [← hpg, Int.toNat_natCast, List.getD_eq_getElem?_getD, hx]
    rfl
set_option maxHeartbeats 1000000 in
theorem rdrop_spec {A1 : Option Addr} {n1 c1 : Nat} {f1 : List Fl} {A2 : Option Addr} {n2 c2 : Nat} {f2 : List Fl} {A3 : Option Addr} {n3 c3 : Nat} (hN : Nb N h) (hp : RefP h m x N A1 n1 c1 f1 A2 n2 c2 f2 A3 n3 c3) (hn : x.waits.length ≤ 1073741824) (s : Str) (k : Int) :
    HC Try.prog 97 #[.pointer (some ⟨m, 0, none⟩), .string s, .int .i64 k] h fun v h' => (∃ A4 n4 c4, RefP h' m { x with waits := drop x.waits s k } N A1 n1 c1 f1 A2 n2 c2 f2 A4 n4 c4 ∧ Own RwE 141 h.size h' A4 n4 c4 (drop x.waits s k)) ∧
      Upd (fun q => q = m) h h' ∧ v = .tuple #[] := by
  refine HC_of_vc (args := [.pointer (some ⟨m, 0, none⟩), .string s, .int .i64 k]) (base := 37) (cuts := []) (bigs := []) hm Try.func97 ?_
  rw [vcRdrop]
  have hl := hp.waits.len
  refine ⟨_, rfl, A3, n3, c3, reads_load scRw (hp.rd rfl), ?_⟩
  refine ⟨fun a z c n9 h10 => ∃ j : Nat, n9 = j ∧ j ≤ n3 ∧ z ≤ j ∧ Keep h.size h h10 ∧ Own RwE 141 h.size h10 a z c (drop (x.waits.take j) s k), fun _ _ _ n9 _ => n3 - n9.toNat,
    ⟨0, rfl, Nat.zero_le _, Nat.le_refl _, Keep.refl _ _, Own.nil _ _ _⟩, ?_⟩
  rintro a z c n9 h10 ⟨j, rfl, hj, hz, k10, o10⟩
  refine br_intro (fun hlt => ?_) (fun hge => ?_)
  · have hlt := of_decide_eq_true hlt
    have hlt : j < n3 := by omega
    obtain ⟨w, p, hx, hA, rd⟩ := rw_at (hp.waits.keep k10) hlt
    refine ⟨p, ⟨hA, by omega, by omega⟩, _, _, _, rd, svc_rw rfl ?_⟩
    have b16 := push_at h10 (rwBox w)
    have k16 := keep_push h10 (rwBox w)
    have kk : Keep h.size h (h10.push (rwBox w)) := k10.trans (k16.mono k10.size)
    have o16 := o10.upd (k16.upd fun _ => False) fun _ _ h => h
    have htk : x.waits.take (j + 1) = x.waits.take j ++ [w] := by
      obtain ⟨hk1, e⟩ := List.getElem?_eq_some_iff.1 hx
      rw [List.take_succ_eq_append_getElem hk1, e]
    have hd : drop (x.waits.take (j + 1)) s k = drop (x.waits.take j) s k ++ drop [w] s k := by rw [htk]; unfold drop; rw [List.filter_append]
    refine ⟨_, wb_name b16, _, fun _ => wb_page b16, br_intro (fun e => ?_) (fun e => ?_)⟩
    · have e2 : (!(decide (w.n = s) && decide (k ≤ (w.i : Int)))) = true := by
        rw [beq_dec'] at e
        by_cases h1 : w.n = s
        · have e : (w.i : Int) < k := by simpa [h1] using e
          have : ¬ k ≤ (w.i : Int) := by omega
          simp [this]
        · simp [h1]
      have e3 : drop [w] s k = [w] := by unfold drop; rw [List.filter_cons, if_pos e2]; rfl
      refine ⟨_, _, _, wb_all b16, svc_append1 (x := w) app_rw o16 kk.size (bs_rw w) (by omega) fun a' c' H' o' u' b' => ?_⟩
      rw [wrap_i64 (by omega) (by omega)]
      exact ⟨⟨j + 1, rfl, hlt, by omega, kk.trans (u'.keep kk.size fun q hq => (o16.block q hq).1), by rw [hd, e3]; exact o'⟩, by dsimp only; omega⟩
    · have e2 : (!(decide (w.n = s) && decide (k ≤ (w.i : Int)))) = false := by
        rw [beq_dec'] at e
        by_cases h1 : w.n = s
        · have e : k ≤ (w.i : Int) := by simpa [h1] using e
          simp [h1, e]
        · simp [h1] at e
      have e3 : drop [w] s k = [] := by unfold drop; rw [List.filter_cons, if_neg (by rw [e2]; decide)]; rfl
      rw [wrap_i64 (by omega) (by omega)]
      exact ⟨⟨j + 1, rfl, hlt, by omega, kk, by rw [hd, e3, List.append_nil]; exact o16⟩, by dsimp only; omega⟩
  · have hge := of_decide_eq_false hge
    have hk' : j = n3 := by omega
    rw [hk', List.take_of_length_le (by omega)] at o10
    have hmlt := hp.lt
    have p10 := hp.keep k10
    refine ⟨_, rfl, svc_store_box szRw p10.box (by show 2 < 8; decide) rfl (one_slice _ _ _) fun h34 s34 b34 u34 => ?_⟩
    have nm : ∀ q, blk a q → q ≠ m := fun q hq e => by have := (o10.block q hq).1; omega
    have hl4 := o10.1
    refine ⟨⟨a, z, c, RefP.box' (y := { x with waits := drop x.waits s k }) hp.nm u34 b34 rfl p10.now hp.nowE p10.safe hp.safeE ?_, o10.upd u34 nm⟩, (k10.upd _).trans u34, rfl⟩
    exact o10.sln hN
end
end Go.Proofs.Ytembbemljejjbaa
