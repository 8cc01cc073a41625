/-
  Writes and pairs in rows of this program; what a store must do. Conditions: none.
-/
import Derived.Test.YtcihjdalokaokaaGreatDoorVcY
import Derived.Test.YtcihjdalokaokaaGreatDoorVcZ
import Derived.Test.YtcihjdalokaokaaGreatDoorVcR
import Derived.Test.YtcihjdalokaokaaGreatDoorKvC
import Derived.Test.YtcihjdalokaokaaGreatDoorProg
import Derived.KernelRfl
import Derived.Test.YtcihjdalokaokaaGreatDoorSt1
set_option linter.unusedVariables false
set_option linter.unusedSimpArgs false
set_option maxRecDepth 100000
namespace Go.Proofs.YtcihjdalokaokaaGreatDoor
open Go Go.Vc Go.Proofs Go.Dk Go.Kv

theorem kM : Tryz.prog.follows .mixedOrders = true := by kernel_rfl
theorem uS : Tryz.prog.underlying 9 = some .string := by kernel_rfl
theorem kS : scT Tryz.prog 9 = true := by kernel_rfl
theorem kI : scT Tryz.prog 3 = true := by kernel_rfl
theorem kB : scT Tryz.prog 4 = true := by kernel_rfl
theorem zS : szOf Tryz.prog 9 = some 1 := by kernel_rfl
theorem zI : szOf Tryz.prog 3 = some 1 := by kernel_rfl
theorem zB : szOf Tryz.prog 4 = some 1 := by kernel_rfl
theorem svcMono {α : Type} {P : Program} {s : Sem α} {h : Heap} {K K' : α → Heap → Prop} (hs : SVC P s h K) (hk : ∀ a h', K a h' → K' a h') : SVC P s h K' :=
  ⟨fun w hw => let ⟨a, w', h1, h2, h3⟩ := hs.run w hw; ⟨a, w', h1, h2, hk _ _ h3⟩⟩
/-- a write in cells. -/
def WrE : Enc Wr := ⟨3, fun w => [.string w.key, .string w.val, .bool w.gone], fun _ => rfl, fun q v hv => by
  simp only [List.mem_cons, List.not_mem_nil, or_false] at hv
  rcases hv with rfl | rfl | rfl
  · exact one_string _
  · exact one_string _
  · exact one_bool _⟩
abbrev wrVal (w : Wr) : Value := .agg #[.string w.key, .string w.val, .bool w.gone]
abbrev wrBox (w : Wr) : Obj := .cells #[.string w.key, .string w.val, .bool w.gone] 42 (0, 0)
theorem agWr : agT Tryz.prog 42 3 = true := by kernel_rfl
theorem szWr : szOf Tryz.prog 42 = some 3 := by kernel_rfl
theorem wr_at {h : Heap} {A : Option Addr} {n k : Nat} {l : List Wr} {w : Wr} (hs : Sl WrE h A n l) (hq : l[k]? = some w) :
    ∃ p, A = some p ∧ Reads Tryz.prog (Instr.loadAt 42 (.pointer (some (p.add (k * 3))))) h (.agg (Array.mk [.string w.key, .string w.val, .bool w.gone])) := by
  obtain ⟨p, e, hp⟩ := hs.get hq
  exact ⟨p, e, reads_load_agg (cs := [.string w.key, .string w.val, .bool w.gone]) agWr rfl fun j v hv => by rw [Addr.add_add]; exact hp j v hv⟩
theorem svc_wr {w : Wr} {h : Heap} {old : Array Value} {K : Unit → Heap → Prop} (ho : old.size = 3) (k : K () (h.push (wrBox w))) :
    SVC Tryz.prog (Instr.storeAt 42 (.pointer (some ⟨h.size, 0, none⟩)) (.agg (Array.mk [.string w.key, .string w.val, .bool w.gone]))) (h.push (.cells old 42 (0, 0))) K :=
  svc_store_new (v := wrVal w) szWr ho (fun v hv => WrE.one w v hv) k
section
variable {w : Wr} {h : Heap} {b : Nat}
theorem wr_k (hb : h[b]? = some (wrBox w)) : Reads Tryz.prog (Instr.loadAt 9 (.pointer (some ⟨b, 0, none⟩))) h (.string w.key) := reads_load kS (cell_cells0 hb rfl)
theorem wr_v (hb : h[b]? = some (wrBox w)) : Reads Tryz.prog (Instr.loadAt 9 (.pointer (some ((⟨b, 0, none⟩ : Addr).add 1)))) h (.string w.val) := reads_load kS (cell_cells hb rfl)
theorem wr_g (hb : h[b]? = some (wrBox w)) : Reads Tryz.prog (Instr.loadAt 4 (.pointer (some ((⟨b, 0, none⟩ : Addr).add 2)))) h (.bool w.gone) := reads_load kB (cell_cells hb rfl)
end
/-- what one asks of a store: its get, apply and scan, whatever it is made of. None of its blocks is of N; u writes were done so far, of which it has room for M. -/
structure Sto (M : Nat) (S : Nat → (Nat → Prop) → Ps Str → Heap → Prop) (s : Nat) : Prop where
  srt : ∀ {u N P h}, S u N P h → SrtP P
  lt : ∀ {u N P h}, S u N P h → ∀ q, N q → q < h.size
  own : ∀ {u N P h} {T N' : Nat → Prop} {h' : Heap}, S u N P h → UpdM T h h' → (∀ q, q < h.size → T q → N q) → (∀ q, N' q → (N q ∨ h.size ≤ q) ∧ q < h'.size) → S u N' P h'
  get : ∀ {u N P h}, S u N P h → ∀ k, HC Tryz.prog 84 #[.pointer (some ⟨s, 0, none⟩), .string k] h fun v h' => S u N P h' ∧ UpdM (fun q => ¬ N q) h h' ∧
    v = .tuple #[.string ((mGet P k).getD ⟨#[]⟩), .bool (mGet P k).isSome, .int .i64 0]
  apply : ∀ {u N P h} {A : Option Addr} {n c : Nat} {l : List Wr}, S u N P h → Sl WrE h A n l → n ≤ c → n ≤ 9223372036854775807 → (n ≠ 0 → ∀ q, blk A q → N q) → (long l = false → u + n ≤ M) →
    HC Tryz.prog 86 #[.pointer (some ⟨s, 0, none⟩), .slice A n c] h fun v h' => UpdM (fun q => ¬ N q) h h' ∧ (long l = true → S u N P h' ∧ v = .int .i64 3) ∧ (long l = false → S (u + n) N (doneAll P l) h' ∧ v = .int .i64 0)
  scan : ∀ {u N P h}, S u N P h → P.length ≤ 1000000 → ∀ k n, HC Tryz.prog 89 #[.pointer (some ⟨s, 0, none⟩), .string k, .int .i64 n] h fun v h' => S u N P h' ∧ UpdM (fun q => ¬ N q) h h' ∧
    ∃ a c, v = .tuple #[.slice a (scan P k n).length c, .int .i64 0] ∧ Sl StrPairE h' a (scan P k n).length (scan P k n) ∧ (∀ q, blk a q → h.size ≤ q ∧ q < h'.size)
/-- a row of writes is gone over: is there one such? -/
theorem contW_spec {h : Heap} {A : Option Addr} {n c f : Nat} {l : List Wr} {p : Wr → Bool} (hs : Sl WrE h A n l) (hn : n ≤ 9223372036854775807) (hf0 : fnOk Tryz.prog f = true)
    (hf : ∀ (w : Wr) (g : Heap), HC Tryz.prog f #[wrVal w] g fun v g' => Keep g.size g g' ∧ v = .bool (p w)) :
    HC Tryz.prog 69 #[.slice A n c, .func (.func f) #[] #[]] h fun v h' => Keep h.size h h' ∧ v = .bool (l.any p) := by
  have hl := hs.1
  have idx : HC Tryz.prog 123 #[.slice A n c, .func (.func f) #[] #[]] h fun v h' => Keep h.size h h' ∧ ∃ i : Int, v = .int .i64 i ∧ decide (i ≥ 0) = l.any p := by
    refine HC_of_vc (args := [.slice A n c, .func (.func f) #[] #[]]) (base := 19) (cuts := []) (bigs := []) kM Tryz.func123 ?_
    rw [vcIdxW]
    refine ⟨fun _ n3 H => ∃ j : Nat, n3 = j ∧ j ≤ n ∧ Keep h.size h H ∧ (l.take j).any p = false, fun _ n3 _ => n - n3.toNat, ⟨0, rfl, Nat.zero_le _, Keep.refl _ _, by simp⟩, ?_⟩
    rintro n2 n3 H ⟨j, rfl, hj, kH, hno⟩
    refine br_intro (fun e => ?_) fun e => ?_
    · have e := of_decide_eq_true e
      have hq : l[j]? = some (l[j]'(by omega)) := List.getElem?_eq_getElem (by omega)
      have htk : l.take (j + 1) = l.take j ++ [l[j]'(by omega)] := List.take_succ_eq_append_getElem (by omega)
      have hmem := List.getElem_mem (by omega : j < l.length)
      generalize l[j]'(by omega) = w at hq htk hmem
      obtain ⟨p5, ea, rd⟩ := wr_at (hs.keep kH) hq
      refine ⟨p5, ⟨ea, by omega, e⟩, _, _, _, rd, br_intro (fun _ => ?_) fun e => by rw [hf0] at e; cases e⟩
      refine (hf w H).mono ?_
      rintro v h10 ⟨k10, rfl⟩
      have kk := kH.trans (k10.mono kH.size)
      refine ⟨_, rfl, br_intro (fun e2 => ⟨kk, _, rfl, ?_⟩) fun e2 => ?_⟩
      · rw [decide_eq_true (by omega)]
        exact (List.any_eq_true.2 ⟨w, hmem, e2⟩).symm
      · rw [wrap_i64 (by omega) (by omega)]
        exact ⟨⟨j + 1, rfl, by omega, kk, by rw [htk, List.any_append, hno]; simp [e2]⟩, by dsimp only; omega⟩
    · have e := of_decide_eq_false e
      have hjn : j = n := by omega
      subst hjn
      rw [← hl, List.take_length] at hno
      exact ⟨kH, _, rfl, by rw [hno]; decide⟩
  refine HC_of_vc (args := [.slice A n c, .func (.func f) #[] #[]]) (base := 9) (cuts := []) (bigs := []) kM Tryz.func69 ?_
  rw [vcContW]
  refine idx.mono ?_
  rintro v h1 ⟨k1, i, rfl, e⟩
  exact ⟨_, rfl, k1, by rw [e]⟩
end Go.Proofs.YtcihjdalokaokaaGreatDoor
