/-
  DiskKeeps, walked: whatever bytes, the law returns true. Conditions: none.
-/
import Derived.Test.YtembbemljejjbaaDk6
set_option linter.unusedVariables false
set_option linter.unusedSimpArgs false
set_option maxRecDepth 100000
namespace Go.Proofs.Ytembbemljejjbaa
open Go Go.Vc Go.Proofs Go.Dk

def sf : Str := ⟨#[102]⟩
def kp1 (b : Str) : D := { act (new 4) with now := put sf [pad b] [], waits := [⟨sf, 0, pad b⟩] }
theorem kp_write {b : Str} (hb : b.size ≤ 512) : write (new 4) sf 0 b = (0, kp1 b) := by
  have h1 : ¬ 512 < b.size := by omega
  have h2 : (new 4).down = false := rfl
  have h3 : pgs (new 4).now sf = [] := rfl
  have h4 : ¬ ((0 : Int) = (([] : List Str).length : Nat) ∧ free (new 4) < 1) := fun h => by have := h.2; revert this; decide
  have h5 : goes (new 4) = false := rfl
  simp only [write, h2, h3, h5, Bool.false_eq_true, if_false, if_neg h1, if_neg h4]
  rfl
theorem kp_read {b : Str} : Dk.read (kp1 b) sf 0 = (pad b, 0) := by
  have h : pgs (kp1 b).now sf = [pad b] := by show pgs (put sf [pad b] []) sf = _; simp [put, pgs, mGet]
  have hd : (kp1 b).down = false := rfl
  simp [Dk.read, h, hd]

theorem app_by : App Try.prog 22 5 ByteE.sz 1 (.int .u8 0) := ⟨by kernel_rfl, by kernel_rfl, by kernel_rfl, by kernel_rfl, rfl, by decide, by decide⟩
theorem svc_empty {h : Heap} {K : Value → Heap → Prop} (k : Own ByteE 5 h.size (h.push (.cells #[] 5 (0, 0))) (some ⟨h.size, 0, none⟩) 0 0 [] → K (.slice (some ⟨h.size, 0, none⟩) 0 0) (h.push (.cells #[] 5 (0, 0)))) :
    SVC Try.prog (Instr.buildSlice 22 0 (Array.mk [])) h K := by
  refine ⟨fun w hw => ?_⟩
  subst hw
  have hs : szOf Try.prog 5 = some 1 := by kernel_rfl
  refine ⟨.slice (some ⟨w.heap.size, 0, none⟩) 0 0, w.alloc (.cells #[] 5), ?_, ⟨rfl, rfl, rfl⟩, k ⟨rfl, Nat.le_refl _, .inr ⟨w.heap.size, _, rfl, Nat.le_refl _, push_at _ _, by simp, [], by simp⟩⟩⟩
  have hz : ∀ w : World, (zeroValue 5).run Try.prog w = .ok (.int .u8 0) w := fun w => by
    have hz0 : (Try.prog.info? 5).bind (·.zero) = some (.int .u8 0) := by kernel_rfl
    cases hi : Try.prog.info? 5 with
    | none => simp [hi] at hz0
    | some i => simp [hi] at hz0; simp [zeroValue, typeInfo, hi, hz0]
  have hu : ∀ w : World, (underlying 22).run Try.prog w = .ok (.slice 5) w := fun w => run_underlying undBs w
  have hso : ∀ w : World, (sizeOf 5).run Try.prog w = .ok 1 w := fun w => run_szOf hs w
  have hr : Array.range 0 = #[] := by simp
  simp [Instr.buildSlice, hu, hso, hz, Instr.fill, newRow, hr]

/-- a row of numbers, each a byte. -/
def nums (n : Nat) (cs : Array Value) : Prop := ∀ (j : Nat) (v : Value), j < n → cs[j]? = some v → ∃ m : Int, v = .int .u8 m
theorem nums_set {n : Nat} {cs : Array Value} {k : Nat} {m : Int} (h : nums n cs) : nums n (cs.toList.set k (.int .u8 m)).toArray := fun j v hj hv => by
  simp only [List.getElem?_toArray, List.getElem?_set] at hv
  split at hv
  · split at hv
    · simp at hv; exact ⟨m, hv.symm⟩
    · cases hv
  · exact h j v hj (by simpa using hv)
theorem nums_enc {n : Nat} (xs : List UInt8) : nums n (xs.flatMap ByteE.enc).toArray := fun j v _ hv => by
  have hm : v ∈ xs.flatMap ByteE.enc := List.mem_of_getElem? (by simpa using hv)
  obtain ⟨b, _, hb⟩ := List.mem_flatMap.1 hm
  simp [ByteE] at hb
  exact ⟨_, hb⟩

theorem keeps_spec {h : Heap} {A : Option Addr} {n c : Nat} {b : Str} (hb : Sl ByteE h A n (bytesL b)) (hn : n ≤ 9223372036854775807) (hnc : n ≤ c) :
    HC Try.prog 3 #[.slice A n c] h fun v h' => Keep h.size h h' ∧ v = .bool true := by
  have hsz : b.size = n := by have := hb.1; simpa [bytesL] using this
  refine HC_of_vc (args := [.slice A n c]) (base := 69) (cuts := []) (bigs := []) hm Try.func3 ?_
  rw [vcKeeps]
  refine (alive_spec h).mono ?_
  rintro v h1 ⟨k1, rfl⟩
  refine ⟨_, rfl, br_intro (fun e => by cases e) fun _ => br_intro (fun _ => ⟨k1, rfl⟩) fun e1 => ?_⟩
  have hn5 : n ≤ 512 := by have : ¬ (512 : Int) < n := by simpa using e1
                           omega
  refine svc_empty fun ow => ⟨_, _, _, rfl, ?_⟩
  have k4 := keep_push h1 (.cells #[] 5 (0, 0))
  refine svc_append (ys := bytesL b) app_by ow (by simp) ((hb.keep k1).keep k4) (by omega) fun a' c' h9 o9 u9 b9 => ⟨_, _, _, rfl, ?_⟩
  rw [List.nil_append, Nat.zero_add] at o9
  rw [Nat.zero_add]
  have k9 : Keep h1.size h1 h9 := k4.trans (u9.keep k4.size fun i ⟨q, e, hq⟩ => by cases e; exact Nat.le_of_eq hq)
  have kk9 : Keep h.size h h9 := k1.trans (k9.mono k1.size)
  -- the block of 'mine'
  have mine : ∀ {h' : Heap}, 0 < n → (Own ByteE 5 h1.size h' a' n c' (bytesL b)) → ∃ bm cm, a' = some ⟨bm, 0, none⟩ ∧ h1.size ≤ bm ∧ h'[bm]? = some (.cells cm 5 (0, 0)) ∧ n ≤ cm.size ∧ nums n cm := fun hp ho => by
    rcases ho.2.2 with ⟨e, e2⟩ | ⟨bm, cm, e, q1, q2, q3, rest, q4⟩
    · have := ho.2.1; omega
    · refine ⟨bm, cm, e, q1, q2, by rw [q3]; have := ho.2.1; show n ≤ c' * 1; omega, fun j v hj hv => ?_⟩
      have hfl : ((bytesL b).flatMap ByteE.enc).length = n := by rw [flat_len, ho.1]; exact Nat.mul_one n
      rw [← Array.getElem?_toList, q4, List.getElem?_append_left (by omega)] at hv
      exact nums_enc (bytesL b) j v hj (by simpa using hv)
  have bd9 := o9.block
  refine (new_spec h9 4).mono ?_
  rintro v h14 ⟨k14, d, rfl, hd14⟩
  have hO14 := hd14.1
  refine ⟨_, rfl, (write_spec (b := b) hd14 (o9.sl.keep k14) (fun q hq hO => by have := (bd9 q hq).2; omega) (by decide)).mono ?_⟩
  rintro v h17 ⟨O, hd17, sub17, u17, rfl⟩
  have hw : write (new 4) ⟨#[102]⟩ 0 b = (0, kp1 b) := kp_write (by omega)
  rw [hw] at hd17
  have kk17 : Keep h9.size h9 h17 := k14.trans (u17.keep k14.size fun i hi => hi.1)
  have ow17 : Own ByteE 5 h1.size h17 a' n c' (bytesL b) := o9.upd (kk17.upd fun _ => False) fun _ _ h => h
  have subO : ∀ q, O q → h9.size ≤ q := fun q h0 => by rcases sub17 q h0 with h0 | h0; exact h0.1; have := k14.size; omega
  refine ⟨_, rfl, fun n21 h22 => ∃ k : Nat, n21 = k ∧ k ≤ n ∧ Upd (blk a') h17 h22 ∧ h22.size = h17.size ∧ (0 < n → ∃ bm cm, a' = some ⟨bm, 0, none⟩ ∧ h22[bm]? = some (.cells cm 5 (0, 0)) ∧ n ≤ cm.size ∧ nums n cm),
    fun n21 _ => n - n21.toNat, ⟨0, rfl, by omega, Upd.refl _ _, rfl, fun hp => let ⟨bm, cm, q1, _, q2, q3, q4⟩ := mine hp ow17; ⟨bm, cm, q1, q2, q3, q4⟩⟩, ?_⟩
  rintro n21 h22 ⟨k, rfl, hkn, u22, s22, hm22⟩
  refine br_intro (fun hlt => ?_) (fun hge => ?_)
  · have hlt : k < n := by simpa using hlt
    obtain ⟨bm, cm, ea, hcm, hsz2, hnm⟩ := hm22 (by omega)
    obtain ⟨m, hmv⟩ := hnm k (cm[k]'(by omega)) hlt (Array.getElem?_eq_getElem (by omega))
    have hck : cm[k]? = some (.int .u8 m) := by rw [Array.getElem?_eq_getElem (by omega), hmv]
    refine ⟨⟨bm, 0, none⟩, ⟨ea, by omega, by omega⟩, m, ?_, ⟨bm, 0, none⟩, ⟨ea, by omega, by omega⟩, ?_⟩
    · rw [Int.toNat_natCast, Nat.mul_one]
      exact reads_load (by kernel_rfl) (cell_cells hcm hck)
    · rw [Int.toNat_natCast, Nat.mul_one]
      refine svc_store_box (by kernel_rfl) hcm (by omega) rfl (one_int _ _) fun h27 s27 b27 u27 => ?_
      rw [wrap_i64 (by omega) (by omega)]
      exact ⟨⟨k + 1, rfl, hlt, u22.trans (u27.mono fun q e => ⟨_, ea, e.symm⟩), by omega, fun _ => ⟨bm, _, ea, b27, by simpa using hsz2, nums_set hnm⟩⟩, by dsimp only; omega⟩
  clear hkn hge hm22
  have hd22 : DiskAt h22 d (kp1 b) O := hd17.upd u22 fun q hO hq => by have := (bd9 q hq).2; have := subO q hO; omega
  have k22 : Keep h1.size h1 h22 := k9.trans ((kk17.mono k9.size).trans (u22.keep (by have := k9.size; have := kk17.size; omega) fun q hq => (bd9 q hq).1))
  refine (read_spec hd22 sf 0).mono ?_
  rintro v h29 ⟨k29, b1, m1, rfl, hm1, hb1, hc1⟩
  rw [kp_read] at hm1 hc1
  have ps : (pad b).size = 512 := pad_size (by omega)
  obtain rfl : m1 = 512 := hm1.trans ps
  have q1 := hc1 (by decide)
  have enc_map : ∀ l : List UInt8, l.flatMap ByteE.enc = l.map fun c => Value.int .u8 (c.toNat : Nat) := fun l => by
    induction l with
    | nil => rfl
    | cons a l ih => rw [List.flatMap_cons, ih]; rfl
  refine ⟨some ⟨b1, 0, none⟩, 512, 512, 0, by rw [kp_read]; rfl, ?_⟩
  refine ⟨fun n36 h37 => ∃ k : Nat, n36 = k ∧ k ≤ 512 ∧ Upd (fun q => q = b1) h29 h37 ∧ h37.size = h29.size ∧ ∃ cm, h37[b1]? = some (.cells cm 96 (0, 0)) ∧ cm.size = 512 ∧ nums 512 cm,
    fun n36 _ => 512 - n36.toNat, ⟨0, rfl, by omega, Upd.refl _ _, rfl, _, q1, ?_, ?_⟩, ?_⟩
  · have hl : (bytesL (pad b)).length = 512 := by show (pad b).data.toList.length = _; rw [Array.length_toList]; exact ps
    simp only [List.size_toArray, List.length_map]; exact hl
  · rw [← enc_map]; exact nums_enc _
  rintro n36 h37 ⟨k, rfl, hkn, u37, s37, cm, hcm, hsz2, hnm⟩
  refine br_intro (fun hlt => ?_) (fun hge => ?_)
  · have hlt : k < 512 := by have : (k : Int) < 512 := by simpa using hlt
                             omega
    obtain ⟨m, hmv⟩ := hnm k (cm[k]'(by omega)) hlt (Array.getElem?_eq_getElem (by omega))
    have hck : cm[k]? = some (.int .u8 m) := by rw [Array.getElem?_eq_getElem (by omega), hmv]
    refine ⟨⟨b1, 0, none⟩, ⟨rfl, by omega, by omega⟩, m, ?_, ⟨b1, 0, none⟩, ⟨rfl, by omega, by omega⟩, ?_⟩
    · rw [Int.toNat_natCast, Nat.mul_one]
      exact reads_load (by kernel_rfl) (cell_cells hcm hck)
    · rw [Int.toNat_natCast, Nat.mul_one]
      refine svc_store_box (by kernel_rfl) hcm (by omega) rfl (one_int _ _) fun h42 s42 b42 u42 => ?_
      rw [wrap_i64 (by omega) (by omega)]
      exact ⟨⟨k + 1, rfl, hlt, u37.trans u42, by omega, _, b42, by simpa using hsz2, nums_set hnm⟩, by dsimp only; omega⟩
  have hd37 : DiskAt h37 d (kp1 b) O := (hd22.keep k29).upd u37 fun q hO e => by have := hd22.1 q hO; omega
  have z22 := k22.size
  have k37 : Keep h1.size h1 h37 := k22.trans ((k29.mono z22).trans (u37.keep (by have := k29.size; omega) fun q e => by omega))
  refine (read_spec hd37 sf 0).mono ?_
  rintro v h44 ⟨k44, b2, m2, rfl, hm2, hb2, hc2⟩
  rw [kp_read] at hm2 hc2
  obtain rfl : m2 = 512 := hm2.trans ps
  have q2 := hc2 (by decide)
  have kall : Keep h1.size h1 h44 := k37.trans (k44.mono k37.size)
  have kk : Keep h.size h h44 := k1.trans (kall.mono k1.size)
  have sy : Sl ByteE h44 (some ⟨b2, 0, none⟩) n (bytesL b) := by
    refine ⟨hb.1, .inr ⟨_, rfl, fun i x hx j v hv => ?_⟩⟩
    rw [Addr.add_row, Nat.zero_add, cell_at q2]
    have hx' : (bytesL (pad b))[i]? = some x := by
      have e1 : bytesL (pad b) = bytesL b ++ List.replicate (512 - b.size) 0 := by simp [bytesL, pad]
      rw [e1, List.getElem?_append_left (List.getElem?_eq_some_iff.1 hx).1]; exact hx
    match j, hv with
    | 0, hv =>
      simp [ByteE] at hv
      subst hv
      have e3 : i * ByteE.sz + 0 = i := by show i * 1 + 0 = i; omega
      rw [e3]
      simp [hx']
    | j + 1, hv => simp [ByteE] at hv
  refine ⟨some ⟨b2, 0, none⟩, 512, 512, 0, by rw [kp_read]; rfl, fun _ => ⟨by omega, by omega, by omega⟩, b, fun _ => ?_, b, fun _ => ?_, kk, ?_⟩
  · exact reads_string undBs undB undS sy
  · exact reads_string undBs undB undS (hb.keep kk)
  · simp
end Go.Proofs.Ytembbemljejjbaa
