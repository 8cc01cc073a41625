/-
  Texts of this seat, laid one behind the other: PgR2 PgF1 PgF2 PgF3 PgF4 PgF5 PgF6 PgF7. Conditions: none.
-/
import Derived.Test.YthkhaobmhheoaaaGreatZR
import Derived.Test.YthkhaobmhheoaaaGreatZP
import Derived.Test.YthkhaobmhheoaaaGreatZK
import Derived.Test.YthkhaobmhheoaaaGreatZE
import Derived.Test.YthkhaobmhheoaaaGreatZH
section
set_option linter.unusedVariables false
set_option linter.unusedSimpArgs false
set_option maxRecDepth 100000
namespace Go.Proofs.YthkhaobmhheoaaaGreat
open Go Go.Vc Go.Proofs Go.Dk Go.Cd

/-- a page in cells. -/
def PageE : Enc (Int × Str) := ⟨2, fun q => [.int .i64 q.1, .string q.2], fun _ => rfl, fun q v hv => by
  simp only [List.mem_cons, List.not_mem_nil, or_false] at hv
  rcases hv with rfl | rfl
  · exact one_int _ _
  · exact one_string _⟩
def pgVal (q : Int × Str) : Value := .agg #[.int .i64 q.1, .string q.2]
def pgBox (q : Int × Str) : Obj := .cells #[.int .i64 q.1, .string q.2] 27 (0, 0)
theorem agPg : agT Tryz.prog 27 2 = true := by kernel_rfl
theorem szPg : szOf Tryz.prog 27 = some 2 := by kernel_rfl
theorem app_pg : App Tryz.prog 23 27 PageE.sz 24 (.agg #[.int .i64 0, .string ⟨#[]⟩]) := ⟨by kernel_rfl, by kernel_rfl, by kernel_rfl, by kernel_rfl, rfl, by decide, by decide⟩
theorem pg_at {h : Heap} {A : Option Addr} {n k : Nat} {W : Pg.Rw} {q : Int × Str} (hs : Sl PageE h A n W) (hq : W[k]? = some q) :
    ∃ p, A = some p ∧ Reads Tryz.prog (Instr.loadAt 27 (.pointer (some (p.add (k * 2))))) h (.agg (Array.mk [.int .i64 q.1, .string q.2])) := by
  obtain ⟨p, e, hp⟩ := hs.get hq
  exact ⟨p, e, reads_load_agg (cs := [.int .i64 q.1, .string q.2]) agPg rfl fun j v hv => by rw [Addr.add_add]; exact hp j v hv⟩
theorem svc_pg {q : Int × Str} {h : Heap} {old : Array Value} {K : Unit → Heap → Prop} (ho : old.size = 2) (k : K () (h.push (pgBox q))) :
    SVC Tryz.prog (Instr.storeAt 27 (.pointer (some ⟨h.size, 0, none⟩)) (.agg (Array.mk [.int .i64 q.1, .string q.2]))) (h.push (.cells old 27 (0, 0))) K :=
  svc_store_new (v := pgVal q) szPg ho (fun v hv => PageE.one q v hv) k
theorem pg_i {q : Int × Str} {h : Heap} {b : Nat} (hb : h[b]? = some (pgBox q)) : Reads Tryz.prog (Instr.loadAt 3 (.pointer (some ⟨b, 0, none⟩))) h (.int .i64 q.1) := reads_load scI (cell_cells0 hb rfl)
theorem pg_s {q : Int × Str} {h : Heap} {b : Nat} (hb : h[b]? = some (pgBox q)) : Reads Tryz.prog (Instr.loadAt 9 (.pointer (some ((⟨b, 0, none⟩ : Addr).add 1)))) h (.string q.2) := reads_load scS (cell_cells hb rfl)

theorem ruint_spec {h : Heap} (x : Nat) (hx : x < 18446744073709551616) : HC Tryz.prog 83 #[.int .u64 x] h fun v h' => Keep h.size h h' ∧ v = .string ⟨(uintB x).toArray⟩ := by
  refine ⟨fun w hw => ?_⟩
  subst hw
  refine (Tryz.ruint x hx w).mono ?_
  rintro e w' ⟨rfl, hc⟩
  exact ⟨_, rfl, hc.sane, ⟨hc.size, hc.block⟩, rfl⟩
theorem rint_spec {h : Heap} (x : Nat) (hx : x < 9223372036854775808) : HC Tryz.prog 49 #[.int .i64 x] h fun v h' => Keep h.size h h' ∧ v = .string ⟨(uintB (2 * x)).toArray⟩ := by
  refine HC_of_vc (args := [.int .i64 x]) (base := 16) (cuts := []) (bigs := []) hm Tryz.func49 ?_
  rw [vcRInt]
  refine br_intro (fun _ => ?_) fun e => by have := of_decide_eq_false e; omega
  have e : IntKind.u64.wrap (2 * IntKind.u64.wrap (x : Int)) = ((2 * x : Nat) : Int) := by
    simp only [IntKind.wrap, IntKind.signed, IntKind.bits]
    simp; omega
  rw [e]
  refine (ruint_spec (2 * x) (by omega)).mono ?_
  rintro v h1 ⟨k1, rfl⟩
  exact ⟨_, rfl, k1, rfl⟩
theorem str_app (a b : List UInt8) : ((⟨a.toArray⟩ : ByteArray) ++ (⟨b.toArray⟩ : ByteArray)) = ⟨(a ++ b).toArray⟩ := by
  apply ByteArray.ext; rw [ByteArray.data_append]; simp
theorem str_app2 (a : List UInt8) (s : Str) : ((⟨a.toArray⟩ : ByteArray) ++ s) = ⟨(a ++ bytesL s).toArray⟩ := by
  rw [← str_app, bytes_back]
theorem mk_size (a : List UInt8) : (⟨a.toArray⟩ : ByteArray).size = a.length := by show a.toArray.size = _; rw [List.size_toArray]
theorem i64max : IntKind.i64.max = 9223372036854775807 := by decide
theorem rtext_spec {h : Heap} (s : Str) (hs : s.size ≤ 1099511627776) : HC Tryz.prog 47 #[.string s] h fun v h' => Keep h.size h h' ∧ v = .string ⟨(textB s).toArray⟩ := by
  refine HC_of_vc (args := [.string s]) (base := 9) (cuts := []) (bigs := []) hm Tryz.func47 ?_
  rw [vcRText]
  have e : IntKind.u64.wrap (s.size : Int) = ((s.size : Nat) : Int) := by
    simp only [IntKind.wrap, IntKind.signed, IntKind.bits]
    simp; omega
  rw [e]
  have hu := uintB_len10 (n := s.size) (by omega)
  refine (ruint_spec s.size (by omega)).mono ?_
  rintro v h1 ⟨k1, rfl⟩
  refine ⟨_, rfl, by rw [mk_size, i64max]; omega, k1, ?_⟩
  rw [str_app2]; rfl
/-- a check of four bytes, whichever. -/
theorem rsum_spec {h : Heap} (s : Str) (hs : s.size ≤ 1099511627776) : HC Tryz.prog 48 #[.string s] h fun v h' => h' = h ∧ ∃ n : Int, v = .int .u32 n := by
  refine HC_of_vc (args := [.string s]) (base := 37) (cuts := []) (bigs := []) hm Tryz.func48 ?_
  rw [vcRSum]
  refine ⟨fun _ n3 H => ∃ k : Nat, n3 = k ∧ k ≤ s.size ∧ H = h, fun _ n3 _ => s.size - n3.toNat, ⟨0, rfl, Nat.zero_le _, rfl⟩, ?_⟩
  rintro n2 n3 H ⟨k, rfl, hk, rfl⟩
  refine br_intro (fun e => ?_) fun e => ⟨rfl, _, rfl⟩
  have e := of_decide_eq_true e
  refine ⟨fun _ n8 G => ∃ j : Nat, n8 = j ∧ j ≤ 8 ∧ G = H, fun _ n8 _ => 8 - n8.toNat, ⟨0, rfl, Nat.zero_le _, rfl⟩, ?_⟩
  rintro n7 n8 G ⟨j, rfl, hj, rfl⟩
  refine br_intro (fun e2 => ?_) fun e2 => ?_
  · have e2 := of_decide_eq_true e2
    rw [wrap_i64 (n := (j : Int) + 1) (by omega) (by omega)]
    have hw : 0 ≤ IntKind.u64.wrap (j : Int) := by
      simp only [IntKind.wrap, IntKind.signed, IntKind.bits]
      simp; omega
    have fin : ∀ {X : Prop}, X → True → X := fun h _ => h
    refine ⟨by decide, ⟨by omega, by omega⟩, hw, by decide, br_intro (fun _ => ⟨by decide, br_intro (fun _ => ?_) fun _ => ?_⟩) fun _ => ⟨by decide, br_intro (fun _ => ?_) fun _ => ?_⟩⟩
    all_goals exact ⟨⟨j + 1, rfl, by omega, rfl⟩, by dsimp only; omega⟩
  · rw [wrap_i64 (n := (k : Int) + 1) (by omega) (by omega)]
    exact ⟨⟨k + 1, rfl, by omega, rfl⟩, by dsimp only; omega⟩
theorem rframe_spec {h : Heap} (s : Str) (hs : s.size ≤ 1073741824) : HC Tryz.prog 13 #[.string s] h fun v h' => Keep h.size h h' ∧ ∃ t : Str, v = .string t ∧ t.size = (frameB s).length := by
  refine HC_of_vc (args := [.string s]) (base := 24) (cuts := []) (bigs := []) hm Tryz.func13 ?_
  rw [vcRFrame]
  refine (rtext_spec s (by omega)).mono ?_
  rintro v h1 ⟨k1, rfl⟩
  have ht := textB_len s
  have hu := uintB_len10 (n := s.size) (by omega)
  refine ⟨_, rfl, (rsum_spec _ (by rw [mk_size]; omega)).mono ?_⟩
  rintro v h4 ⟨rfl, n, rfl⟩
  refine ⟨_, rfl, by decide, by decide, by decide, ?_⟩
  rw [u8_b8, u8_b8, u8_b8, u8_b8]
  refine svc_buildSlice (bs_b4 _ _ _ _) ⟨_, _, _, rfl, _, reads_string undBs undB undS (sl_bytes (push_at _ _)), ?_, ?_⟩
  · rw [mk_size, mk_size, i64max]; show ((_ + 4 : Nat) : Int) ≤ _; omega
  · refine ⟨k1.trans (Keep.push _ _ _ k1.size), _, rfl, ?_⟩
    rw [str_app, mk_size, List.length_append, frameB_len]; rfl
set_option maxHeartbeats 1000000 in
theorem record_spec {h : Heap} {A : Option Addr} {n c : Nat} {W : Pg.Rw} (hs : Sl PageE h A n W) (hn : n ≤ 1000000) (hz : ∀ q ∈ W, 0 ≤ q.1 ∧ q.1 < 9223372036854775808 ∧ q.2.size ≤ 512) :
    HC Tryz.prog 14 #[.slice A n c] h fun v h' => Keep h.size h h' ∧ v = .string ⟨(Pg.record W).toArray⟩ := by
  refine HC_of_vc (args := [.slice A n c]) (base := 26) (cuts := []) (bigs := []) hm Tryz.func14 ?_
  rw [vcRecord]
  have hl := hs.1
  refine (rint_spec n (by omega)).mono ?_
  rintro v h1 ⟨k1, rfl⟩
  refine ⟨_, rfl, fun s n6 H => ∃ k : Nat, n6 = k ∧ k ≤ n ∧ Keep h.size h H ∧ s = ⟨(uintB (2 * W.length) ++ (W.take k).flatMap rowB).toArray⟩, fun _ n6 _ => n - n6.toNat, ⟨0, rfl, Nat.zero_le _, k1, by rw [hl]; simp⟩, ?_⟩
  rintro s n6 H ⟨k, rfl, hk, kH, rfl⟩
  refine br_intro (fun e => ?_) fun e => ?_
  · have e := of_decide_eq_true e
    have hkl : k < n := by omega
    have hq : W[k]? = some (W[k]'(by omega)) := List.getElem?_eq_getElem (by omega)
    obtain ⟨q1, q2, q3⟩ := hz _ (List.getElem_mem (by omega : k < W.length))
    generalize W[k]'(by omega) = q at hq q1 q2 q3
    obtain ⟨p, ea, rd⟩ := pg_at (hs.keep kH) hq
    refine ⟨p, ⟨ea, by omega, by omega⟩, _, _, rd, svc_pg rfl ?_⟩
    have b := push_at H (pgBox q)
    have kb := keep_push H (pgBox q)
    generalize H.push (pgBox q) = H2 at b kb
    have e1 : q.1 = ((q.1.toNat : Nat) : Int) := by omega
    refine ⟨fun g => g[H.size]? = some (pgBox q), b, _, pg_i b, ?_⟩
    have hi := rint_spec (h := H2) q.1.toNat (by omega)
    rw [← e1] at hi
    refine hi.mono ?_
    rintro v h16 ⟨k16, rfl⟩
    have hrl := rows_len (W.take k) fun r hr => ⟨(hz r (List.mem_of_mem_take hr)).2.1, (hz r (List.mem_of_mem_take hr)).2.2⟩
    rw [List.length_take] at hrl
    have h3 : min k W.length * 532 ≤ k * 532 := Nat.mul_le_mul_right _ (Nat.min_le_left _ _)
    have hu := uintB_len10 (n := 2 * W.length) (by omega)
    have hu2 := uintB_len10 (n := 2 * q.1.toNat) (by omega)
    have ht := textB_len q.2
    have hu3 := uintB_len10 (n := q.2.size) (by omega)
    refine ⟨_, rfl, k16.at b (at_lt b), by rw [mk_size, mk_size, List.length_append, i64max]; omega, _, fun g hg => pg_s hg, (rtext_spec q.2 (by omega)).mono ?_⟩
    rintro v h21 ⟨k21, rfl⟩
    rw [wrap_i64 (by omega) (by omega)]
    refine ⟨_, rfl, by rw [str_app, mk_size, mk_size, List.length_append, List.length_append, i64max]; omega, ⟨k + 1, rfl, hkl, kH.trans ((kb.trans (k16.mono kb.size)).trans (k21.mono (kb.trans (k16.mono kb.size)).size) |>.mono kH.size), ?_⟩, by dsimp only; omega⟩
    rw [str_app, str_app]
    congr 2
    rw [take_row hq, List.flatMap_append]
    simp [rowB]
  · have e := of_decide_eq_false e
    have hkn : k = W.length := by omega
    refine ⟨kH, ?_⟩
    rw [hkn, List.take_length, record_eq]
theorem filled_spec {h : Heap} (s : Str) (hs : s.size ≤ 512) : HC Tryz.prog 12 #[.string s] h fun v h' => Keep h.size h h' ∧ v = .string (pad s) := by
  refine HC_of_vc (args := [.string s]) (base := 10) (cuts := []) (bigs := []) hm Tryz.func12 ?_
  rw [vcFilled]
  have e : IntKind.i64.wrap (512 - (s.size : Int)) = ((512 - s.size : Nat) : Int) := by rw [wrap_i64 (by omega) (by omega)]; omega
  rw [e]
  refine svc_noughts (n := 512 - s.size) (by omega) fun h1 k1 z1 sl1 => ⟨_, _, _, rfl, _, reads_string undBs undB undS sl1, ?_, k1, ?_⟩
  · rw [page_of, i64max]; omega
  · rw [pad_of]
end Go.Proofs.YthkhaobmhheoaaaGreat
end

section
set_option linter.unusedVariables false
set_option linter.unusedSimpArgs false
set_option maxRecDepth 100000
namespace Go.Proofs.YthkhaobmhheoaaaGreat
open Go Go.Vc Go.Proofs Go.Dk Go.Cd

theorem svc_mono {α : Type} {P : Program} {s : Sem α} {h : Heap} {K K' : α → Heap → Prop} (hs : SVC P s h K) (hk : ∀ a h', K a h' → K' a h') : SVC P s h K' :=
  ⟨fun w hw => let ⟨a, w', h1, h2, h3⟩ := hs.run w hw; ⟨a, w', h1, h2, hk _ _ h3⟩⟩
theorem svc_own_set {α : Type} {E : Enc α} {T t : TypeId} {B : Nat} {h : Heap} {a : Option Addr} {n c i : Nat} {xs : List α} {x : α} {v : Value} {K : Unit → Heap → Prop} (ho : Vc.Own E T B h a n c xs) (hi : i < n)
    (hsz : szOf Tryz.prog t = some v.cells.size) (hv : v.cells.toList = E.enc x) (kk : ∀ h', Vc.Own E T B h' a n c (xs.set i x) → Upd (blk a) h h' → K () h') :
    ∃ p, a = some p ∧ SVC Tryz.prog (Instr.storeAt t (.pointer (some (p.add (i * E.sz)))) v) h K := by
  have hl := ho.1
  rcases ho.2.2 with ⟨_, h0⟩ | ⟨b, cells, rfl, hB, hb, hcs, rest, hrest⟩
  · have := ho.2.1; omega
  have hvs : v.cells.size = E.sz := by rw [← Array.length_toList, hv, E.len]
  have hm : (i + 1) * E.sz ≤ c * E.sz := Nat.mul_le_mul_right _ (by have := ho.2.1; omega)
  rw [Nat.succ_mul] at hm
  refine ⟨_, rfl, ?_⟩
  rw [Addr.add_row, Nat.zero_add]
  refine svc_store_at hsz hb (by rw [hvs, hcs]; exact hm) (fun u hu => E.one x u (by rw [← hv]; exact hu)) fun h' s' b' u' => kk h' ⟨by rw [List.length_set]; exact hl, ho.2.1, .inr ⟨b, _, rfl, hB, b', ?_, rest, ?_⟩⟩ (u'.mono fun q hq => ⟨_, rfl, hq.symm⟩)
  · rw [List.size_toArray, hv, hrest, putL_flat xs rest i x (by omega), ← hcs, ← Array.length_toList, hrest, List.length_append, List.length_append, flat_len, flat_len, List.length_set]
  · rw [hv, hrest, putL_flat xs rest i x (by omega)]
theorem laidL_app : ∀ (A B : Pg.Rw) (l : List Str), Pg.laidL (A ++ B) l = Pg.laidL B (Pg.laidL A l)
  | [], B, l => rfl
  | p :: A, B, l => laidL_app A B _
theorem seq_at : ∀ (W : Pg.Rw) (l : List Str) (j : Nat) (q : Int × Str), Pg.seqB l.length W = true → W[j]? = some q → 0 ≤ q.1 ∧ q.1 ≤ (Pg.laidL (W.take j) l).length
  | [], l, j, q, _, h => by simp at h
  | p :: W, l, 0, q, h, hq => by
    cases hq
    rw [Pg.seqB_cons] at h
    exact h.1
  | p :: W, l, j + 1, q, h, hq => by
    rw [Pg.seqB_cons] at h
    obtain ⟨⟨h1, h2⟩, h3⟩ := h
    have hl := Pg.setP_len l p.1.toNat (pad p.2)
    have hl' : (setP l p.1.toNat (pad p.2)).length = if p.1 = l.length then l.length + 1 else l.length := by rw [hl]; split <;> omega
    exact seq_at W (setP l p.1.toNat (pad p.2)) j q (by rw [hl']; exact h3) hq
theorem laid_next {W : Pg.Rw} {l : List Str} {j : Nat} {q : Int × Str} (hq : W[j]? = some q) : Pg.laidL (W.take (j + 1)) l = setP (Pg.laidL (W.take j) l) q.1.toNat (pad q.2) := by
  rw [take_row hq, laidL_app]; rfl
theorem set_fill {L : List Str} {t i : Nat} {p : Str} (h1 : t ≤ 1) (h2 : t = 1 → i = L.length) (h3 : t = 0 → i < L.length) : (L ++ List.replicate t (⟨#[]⟩ : Str)).set i p = setP L i p := by
  unfold setP
  rcases Nat.lt_or_ge 0 t with h | h
  · obtain rfl : t = 1 := by omega
    have := h2 rfl
    subst this
    have e : L.length + 1 - L.length = 1 := by omega
    rw [e]
    simp [List.set_append]
  · obtain rfl : t = 0 := by omega
    have := h3 rfl
    have e : i + 1 - L.length = 0 := by omega
    rw [e]; rfl
set_option maxHeartbeats 1000000 in
theorem laid_spec {h : Heap} {A B : Option Addr} {n c m dc : Nat} {l : List Str} {W : Pg.Rw} (ha : Sl StrE h A n l) (hb : Sl PageE h B m W) (hn : n ≤ 100000) (hm' : m ≤ 100000) (hz : ∀ q ∈ W, q.2.size ≤ 512) (hs : Pg.seqB l.length W = true) :
    HC Tryz.prog 26 #[.slice A n c, .slice B m dc] h fun v h' => Keep h.size h h' ∧ ∃ a k c', v = .slice a k c' ∧ Vc.Own StrE 9 h.size h' a k c' (Pg.laidL W l) := by
  refine HC_of_vc (args := [.slice A n c, .slice B m dc]) (base := 34) (cuts := []) (bigs := []) hm Tryz.func26 ?_
  rw [vcLaid]
  have hl := ha.1
  have hwl := hb.1
  refine svc_empty_of app_ss fun o0 => ⟨_, _, _, rfl, ?_⟩
  have kp := keep_push h (.cells #[] 9 (0, 0))
  refine svc_append app_ss o0 kp.size (ha.keep kp) (by omega) fun a6 c6 h6 o6 u6 b6 => ⟨_, _, _, rfl, ?_⟩
  have k6 : Keep h.size h h6 := kp.trans (u6.keep kp.size fun q hq => (o0.block q hq).1)
  rw [List.nil_append] at o6
  refine ⟨fun a k c n15 H => ∃ j : Nat, n15 = j ∧ j ≤ m ∧ Keep h.size h H ∧ Vc.Own StrE 9 h.size H a k c (Pg.laidL (W.take j) l) ∧ k ≤ n + j, fun _ _ _ n15 _ => m - n15.toNat,
    ⟨0, rfl, Nat.zero_le _, k6, by rw [Nat.zero_add] at o6 ⊢; exact o6, by omega⟩, ?_⟩
  rintro a12 k13 k14 n15 H ⟨j, rfl, hj, kH, oH, hk13⟩
  refine br_intro (fun e => ?_) fun e => ?_
  · have e := of_decide_eq_true e
    have hjl : j < m := by omega
    have hq : W[j]? = some (W[j]'(by omega)) := List.getElem?_eq_getElem (by omega)
    have hqz := hz _ (List.getElem_mem (by omega : j < W.length))
    generalize W[j]'(by omega) = q at hq hqz
    obtain ⟨q1, q2⟩ := seq_at W l j q hs hq
    obtain ⟨p, ea, rd⟩ := pg_at (hb.keep kH) hq
    refine ⟨p, ⟨ea, by omega, by omega⟩, _, _, rd, svc_pg rfl ?_⟩
    have bx := push_at H (pgBox q)
    have kb := keep_push H (pgBox q)
    have zz : H.size < (H.push (pgBox q)).size := by simp
    have oH2 := oH.upd (kb.upd fun _ => False) fun _ _ h => h
    have hoH := fun b hb => (oH.block b hb).2
    have k2 := kH.trans (kb.mono kH.size)
    generalize H.push (pgBox q) = H2 at bx kb zz oH2 k2
    have hL := oH.1
    generalize hLL : Pg.laidL (W.take j) l = L at oH oH2 q2 hL
    refine ⟨fun a k c G => ∃ t : Nat, t ≤ 1 ∧ (t = 1 → q.1.toNat = L.length) ∧ G[H.size]? = some (pgBox q) ∧ Keep h.size h G ∧ Vc.Own StrE 9 h.size G a k c (L ++ List.replicate t ⟨#[]⟩) ∧ (∀ b, blk a b → b ≠ H.size) ∧ H.size < G.size,
      fun _ k _ _ => q.1.toNat + 1 - k, ⟨0, by omega, by omega, bx, k2, by simpa using oH2, fun b hb => by have := hoH b hb; omega, zz⟩, ?_⟩
    rintro a24 k25 k26 G ⟨t, ht, ht1, bG, kG, oG, neG, zG⟩
    have hl25 := oG.1
    rw [List.length_append, List.length_replicate] at hl25
    refine ⟨_, pg_i bG, br_intro (fun e2 => ?_) fun e2 => ?_⟩
    · have e2 := of_decide_eq_true e2
      have ht0 : t = 0 := by omega
      subst ht0
      refine svc_append1 app_ss oG kG.size (bs_s _) (by omega) fun a' c' G' o' u' b' => ⟨⟨1, Nat.le_refl _, fun _ => by omega, u'.at bG fun hb => neG _ hb rfl, kG.trans (u'.keep kG.size fun b hb => (oG.block b hb).1), ?_, fun b hb => ?_, Nat.lt_of_lt_of_le zG u'.size⟩, by dsimp only; omega⟩
      · simpa using o'
      · rcases b' b hb with h3 | h3
        · exact neG b h3
        · omega
    · have e2 := of_decide_eq_false e2
      refine ⟨fun g => g[H.size]? = some (pgBox q), bG, _, fun g hg => pg_i hg, _, pg_s bG, (filled_spec q.2 hqz).mono ?_⟩
      rintro v h44 ⟨k44, rfl⟩
      obtain ⟨p46, ep, sv⟩ := svc_own_set (t := 9) (i := q.1.toNat) (x := pad q.2) (v := .string (pad q.2)) (K := fun _ h48 => ∃ j' : Nat, IntKind.i64.wrap ((j : Int) + 1) = j' ∧ j' = j + 1 ∧ Keep h.size h h48 ∧ Vc.Own StrE 9 h.size h48 a24 k25 k26 (setP L q.1.toNat (pad q.2))) (oG.upd (k44.upd fun _ => False) fun _ _ h => h) (by omega) (by kernel_rfl) rfl
        fun h48 o48 u48 => ⟨j + 1, by rw [wrap_i64 (by omega) (by omega)]; omega, rfl, (kG.trans (k44.mono kG.size)).trans (u48.keep (kG.trans (k44.mono kG.size)).size fun b hb => (oG.block b hb).1), by rw [← set_fill ht ht1 (fun h => by omega)]; exact o48⟩
      refine ⟨_, rfl, k44.at bG (at_lt bG), p46, ⟨ep, by omega, by omega⟩, svc_mono sv ?_⟩
      rintro _ h48 ⟨j', ej, rfl, k48, o48⟩
      rw [ej]
      refine ⟨⟨j + 1, rfl, hjl, k48, ?_, ?_⟩, by dsimp only; omega⟩
      · rw [laid_next hq, hLL]; exact o48
      · omega
  · have e := of_decide_eq_false e
    have hjm : j = W.length := by omega
    rw [hjm, List.take_length] at oH
    exact ⟨kH, _, _, _, rfl, oH⟩
/-- a page that was read. -/
theorem page_sl {h' : Heap} {b m : Nat} {s : Str} (hm : m = s.size) (hb : m ≠ 0 → h'[b]? = some (.cells (((bytesL s).map fun b => Value.int .u8 (b.toNat : Nat))).toArray 103 (0, 0))) :
    Sl ByteE h' (if m = 0 then none else some ⟨b, 0, none⟩) m (bytesL s) := by
  have hl : (bytesL s).length = m := by rw [bytesL_len]; exact hm.symm
  by_cases h0 : m = 0
  · rw [if_pos h0]
    have : bytesL s = [] := List.eq_nil_of_length_eq_zero (by rw [hl]; exact h0)
    rw [this, h0]; exact Sl.nil _ _
  · rw [if_neg h0]
    have e : (bytesL s).map (fun b => Value.int .u8 (b.toNat : Nat)) = (bytesL s).flatMap ByteE.enc := by
      generalize bytesL s = l
      induction l with
      | nil => rfl
      | cons a l ih => rw [List.flatMap_cons, ← ih]; rfl
    have := hb h0
    rw [e] at this
    rw [← hl]; exact sl_bytes this
set_option maxHeartbeats 1000000 in
theorem has_spec' {h : Heap} {p d : Nat} {nm : Str} {N : Nat → Prop} {x : D} {A : Option Addr} {n c : Nat} {l : List Str} (hp : PagerAt h p d nm) (hd : DN N d x h) (hdn : x.down = false) (ha : Sl StrE h A n l) (hn : n ≤ 100000) :
    HC Tryz.prog 19 #[.pointer (some ⟨p, 0, none⟩), .slice A n c] h fun v h' => Keep h.size h h' ∧ v = .bool (decide (pgs x.now nm = l)) := by
  refine HC_of_vc (args := [.pointer (some ⟨p, 0, none⟩), .slice A n c]) (base := 47) (cuts := []) (bigs := []) hm Tryz.func19 ?_
  rw [vcPgHas]
  have hl := ha.1
  have hnd : ¬ x.down = true := by rw [hdn]; decide
  have hcl : Dk.count x nm = (pgs x.now nm).length := by unfold Dk.count; rw [if_neg hnd]
  refine (pcount_spec hp hd).mono ?_
  rintro v h1 ⟨rfl, rfl⟩
  rw [hcl]
  generalize hL : pgs x.now nm = L
  refine ⟨_, rfl, br_intro (fun e => ⟨Keep.refl _ _, ?_⟩) fun e => ?_⟩
  · have : L ≠ l := fun h => by rw [h, hl] at e; simp at e
    rw [decide_eq_false this]
  have e : L.length = n := by simp at e; omega
  refine ⟨fun _ n6 H => ∃ j : Nat, n6 = j ∧ j ≤ n ∧ Keep h1.size h1 H ∧ L.take j = l.take j, fun _ n6 _ => n - n6.toNat, ⟨0, rfl, Nat.zero_le _, Keep.refl _ _, rfl⟩, ?_⟩
  rintro b5 n6 H ⟨j, rfl, hj, kH, hpre⟩
  refine br_intro (fun e2 => ?_) fun e2 => ?_
  · have e2 := of_decide_eq_true e2
    have hjn : j < n := by omega
    have hlj : l[j]? = some (l[j]'(by omega)) := List.getElem?_eq_getElem (by omega)
    have hLj : L[j]? = some (L[j]'(by omega)) := List.getElem?_eq_getElem (by omega)
    obtain ⟨p8, ea, rd⟩ := reads_s (ha.keep kH) hlj
    refine ⟨p8, ⟨ea, by omega, by omega⟩, _, rd, (pread_spec (hp.keep kH) (hd.keep kH) (j : Int)).mono ?_⟩
    have hr : Dk.read x nm (j : Int) = (L[j]'(by omega), 0) := by
      unfold Dk.read
      rw [if_neg hnd, hL, if_neg (by omega)]
      have : ((j : Int)).toNat = j := by omega
      rw [this, List.getD_eq_getElem?_getD, hLj]; rfl
    rw [hr]
    rintro v h11 ⟨k11, b, m, rfl, hm0, hb0, hcell⟩
    have hsl := page_sl hm0 hcell
    refine ⟨_, _, _, _, rfl, _, fun _ => reads_string (c := m) undBs undB undS hsl, ?_⟩
    rw [bytes_back]
    generalize hx1 : L[j]'(by omega) = s1 at hLj
    generalize hx2 : l[j]'(by omega) = s2 at hlj
    refine br_intro (fun e3 => ⟨kH.trans (k11.mono kH.size), ?_⟩) fun e3 => ?_
    · have hne : s1 ≠ s2 := fun h => by rw [h] at e3; simp at e3
      have : L ≠ l := fun h => hne (by rw [h, hlj] at hLj; exact (Option.some.inj hLj).symm)
      rw [decide_eq_false this]
    · have heq : s1 = s2 := by
        simp only [bne_self_eq_false, Bool.false_or, Bool.not_eq_false'] at e3
        exact eq_beq.1 e3
      rw [wrap_i64 (by omega) (by omega)]
      refine ⟨⟨j + 1, rfl, hjn, kH.trans (k11.mono kH.size), ?_⟩, by dsimp only; omega⟩
      have t1 : L.take (j + 1) = L.take j ++ [s1] := by rw [List.take_add_one, hLj]; rfl
      have t2 : l.take (j + 1) = l.take j ++ [s2] := by rw [List.take_add_one, hlj]; rfl
      rw [t1, t2, hpre, heq]
  · have e2 := of_decide_eq_false e2
    have hjn : j = n := by omega
    have hLl : L = l := by
      rw [hjn] at hpre
      rw [List.take_of_length_le (by omega), List.take_of_length_le (by omega)] at hpre; exact hpre
    refine (pread_spec (hp.keep kH) (hd.keep kH) (n : Int)).mono ?_
    have hr : Dk.read x nm (n : Int) = (⟨#[]⟩, 5) := by
      unfold Dk.read
      rw [if_neg hnd, hL, if_pos (by omega)]
    rw [hr]
    rintro v h18 ⟨k18, b, m, rfl, _⟩
    refine ⟨_, _, _, _, rfl, kH.trans (k18.mono kH.size), ?_⟩
    rw [decide_eq_true hLl]; rfl
end Go.Proofs.YthkhaobmhheoaaaGreat
end

section
set_option linter.unusedVariables false
set_option linter.unusedSimpArgs false
set_option maxRecDepth 100000
namespace Go.Proofs.YthkhaobmhheoaaaGreat
open Go Go.Vc Go.Proofs Go.Dk Go.Cd

set_option maxHeartbeats 1000000 in
theorem wants_spec {h : Heap} {A : Option Addr} {n c cn : Nat} {fr : Int} {W : Pg.Rw} (hs : Sl PageE h A n W) (hn : n ≤ 1000000) (hc : cn ≤ 100000) (hf : -100000 ≤ fr ∧ fr ≤ 100000) (hk : ∀ q ∈ W, -9223372036854775808 ≤ q.1 ∧ q.1 ≤ 9223372036854775807) :
    HC Tryz.prog 23 #[.slice A n c, .int .i64 cn, .int .i64 fr] h fun v h' => Keep h.size h h' ∧ v = .int .i64 (Pg.wants cn fr W) := by
  refine HC_of_vc (args := [.slice A n c, .int .i64 cn, .int .i64 fr]) (base := 68) (cuts := [15]) (bigs := []) hm Tryz.func23 ?_
  rw [vcWants]
  have hl := hs.1
  refine ⟨fun n2 n3 H => ∃ k : Nat, n3 = k ∧ k ≤ n ∧ Keep h.size h H ∧ ∀ q ∈ W.take k, q.2.size ≤ 512, fun _ n3 _ => n - n3.toNat, ⟨0, rfl, Nat.zero_le _, Keep.refl _ _, fun q hq => by simp at hq⟩, ?_⟩
  rintro n2 n3 H ⟨k, rfl, hkn, kH, hsm⟩
  refine br_intro (fun e => ?_) fun e => ?_
  · have e := of_decide_eq_true e
    have hlt : k < n := by omega
    have hq : W[k]? = some (W[k]'(by omega)) := List.getElem?_eq_getElem (by omega)
    have hmem := List.getElem_mem (by omega : k < W.length)
    generalize W[k]'(by omega) = q at hq hmem
    obtain ⟨p, ea, rd⟩ := pg_at (hs.keep kH) hq
    refine ⟨p, ⟨ea, by omega, by omega⟩, _, _, rd, svc_pg rfl ⟨_, pg_s (push_at _ _), br_intro (fun e2 => ?_) fun e2 => ?_⟩⟩
    · have e2 := of_decide_eq_true e2
      refine ⟨kH.trans (Keep.push _ _ _ kH.size), ?_⟩
      unfold Pg.wants
      rw [if_pos (List.any_eq_true.2 ⟨q, hmem, by simp; omega⟩)]
    · have e2 := of_decide_eq_false e2
      rw [wrap_i64 (by omega) (by omega)]
      refine ⟨⟨k + 1, rfl, hlt, kH.trans (Keep.push _ _ _ kH.size), fun r hr => ?_⟩, by dsimp only; omega⟩
      rw [take_row hq] at hr
      rcases List.mem_append.1 hr with h1 | h1
      · exact hsm r h1
      · rw [List.mem_singleton.1 h1]; omega
  have e := of_decide_eq_false e
  have hkW : k = W.length := by omega
  rw [hkW, List.take_length] at hsm
  have hlong : ¬ ((W.any fun p => decide (512 < p.2.size)) = true) := fun h => by
    obtain ⟨q, h1, h2⟩ := List.any_eq_true.1 h
    have := hsm q h1
    simp at h2; omega
  refine ⟨fun _ n14 n15 G => ∃ (j f : Nat), n15 = j ∧ n14 = f ∧ j ≤ n ∧ f ≤ j ∧ Keep h.size h G ∧ (Pg.seqB cn W = Pg.seqB (cn + f) (W.drop j)) ∧ (Pg.newN cn W = f + Pg.newN (cn + f) (W.drop j)), fun _ _ n15 _ => n - n15.toNat,
    ⟨0, 0, rfl, rfl, Nat.zero_le _, Nat.le_refl _, kH, rfl, (Nat.zero_add _).symm⟩, ?_⟩
  rintro n13 n14 n15 G ⟨j, f, rfl, rfl, hj, hfj, kG, hsq, hnw⟩
  refine br_intro (fun e2 => ?_) fun e2 => ?_
  · have e2 := of_decide_eq_true e2
    have hlt : j < n := by omega
    have hq : W[j]? = some (W[j]'(by omega)) := List.getElem?_eq_getElem (by omega)
    have hdrop : W.drop j = W[j]'(by omega) :: W.drop (j + 1) := List.drop_eq_getElem_cons (by omega)
    have hmem := List.getElem_mem (by omega : j < W.length)
    generalize W[j]'(by omega) = q at hq hmem hdrop
    rw [hdrop] at hsq hnw
    have hkq := hk q hmem
    obtain ⟨p, ea, rd⟩ := pg_at (hs.keep kG) hq
    have hw : IntKind.i64.wrap ((cn : Int) + (f : Int)) = ((cn + f : Nat) : Int) := by rw [wrap_i64 (by omega) (by omega)]; omega
    rw [hw]
    have kG' := kG.trans (Keep.push h.size G (pgBox q) kG.size)
    refine ⟨fun _ n27 G2 => ∃ f' : Nat, n27 = f' ∧ f' ≤ j + 1 ∧ Keep h.size h G2 ∧ (Pg.seqB cn W = Pg.seqB (cn + f') (W.drop (j + 1))) ∧ (Pg.newN cn W = f' + Pg.newN (cn + f') (W.drop (j + 1))), ?_, ?_⟩
    · refine ⟨p, ⟨ea, by omega, by omega⟩, _, _, rd, svc_pg rfl ⟨_, pg_i (push_at _ _), _, fun _ => pg_i (push_at _ _), br_intro (fun e3 => ⟨kG', ?_⟩) fun e3 => ⟨_, pg_i (push_at _ _), br_intro (fun e4 => ?_) fun e4 => ?_⟩⟩⟩
      · have hb : Pg.seqB cn W = false := by
          rw [hsq]
          cases hsb : Pg.seqB (cn + f) (q :: W.drop (j + 1)) with
          | false => rfl
          | true =>
            have := (Pg.seqB_cons _ _ _).1 hsb
            simp only [Bool.or_eq_true, decide_eq_true_eq] at e3
            omega
        unfold Pg.wants
        rw [if_neg hlong, hb]; rfl
      · simp only [Bool.or_eq_false_iff, decide_eq_false_iff_not] at e3
        have e4 : q.1 = ((cn + f : Nat) : Int) := by simpa using e4
        refine ⟨f + 1, by rw [wrap_i64 (by omega) (by omega)]; omega, by omega, kG', ?_, ?_⟩
        · rw [hsq, Pg.seqB, if_pos e4]
          have h1 : decide (0 ≤ q.1) = true := by simp; omega
          have h2 : decide (q.1 ≤ ((cn + f : Nat) : Int)) = true := by simp; omega
          rw [h1, h2]; rfl
        · rw [hnw, Pg.newN_cons, if_pos e4, ← Nat.add_assoc]; rfl
      · simp only [Bool.or_eq_false_iff, decide_eq_false_iff_not] at e3
        have e4 : ¬ q.1 = ((cn + f : Nat) : Int) := by simpa using e4
        refine ⟨f, rfl, by omega, kG', ?_, ?_⟩
        · rw [hsq, Pg.seqB, if_neg e4]
          have h1 : decide (0 ≤ q.1) = true := by simp; omega
          have h2 : decide (q.1 ≤ ((cn + f : Nat) : Int)) = true := by simp; omega
          rw [h1, h2]; rfl
        · rw [hnw, Pg.newN_cons, if_neg e4]
    · rintro n26 n27 G2 ⟨f', rfl, hf', k2, s2, w2⟩
      rw [wrap_i64 (by omega) (by omega)]
      exact ⟨⟨j + 1, f', rfl, rfl, hlt, hf', k2, s2, w2⟩, by dsimp only; omega⟩
  have e2 := of_decide_eq_false e2
  have hjW : j = W.length := by omega
  rw [hjW, List.drop_length] at hsq hnw
  have hsq : Pg.seqB cn W = true := hsq
  have hnw : Pg.newN cn W = f := by rw [hnw]; rfl
  have hall : ∀ (V : Pg.Rw) (c0 : Nat), Pg.seqB c0 V = true → c0 + V.length ≤ 10000000 → ∀ q ∈ V, 0 ≤ q.1 ∧ q.1 < 9223372036854775808 := by
    intro V
    induction V with
    | nil => intro _ _ _ q hq; cases hq
    | cons a V ih =>
      intro c0 h1 h2 q hq
      obtain ⟨⟨h3, h4⟩, h5⟩ := (Pg.seqB_cons _ _ _).1 h1
      simp only [List.length_cons] at h2
      rcases List.mem_cons.1 hq with rfl | hq
      · omega
      · exact ih _ h5 (by split <;> omega) q hq
  refine br_intro (fun e3 => ⟨kG, ?_⟩) fun e3 => ?_
  · have hW : W = [] := List.eq_nil_of_length_eq_zero (by simp at e3; omega)
    unfold Pg.wants
    rw [if_neg hlong, hsq, if_pos hW]; rfl
  have hW : W ≠ [] := fun h => by rw [h] at hl; simp at hl; simp at e3; omega
  have hrows : ∀ q ∈ W, 0 ≤ q.1 ∧ q.1 < 9223372036854775808 ∧ q.2.size ≤ 512 := fun q hq => ⟨(hall W cn hsq (by omega) q hq).1, (hall W cn hsq (by omega) q hq).2, hsm q hq⟩
  refine (record_spec (hs.keep kG) hn hrows).mono ?_
  rintro v h30 ⟨k30, rfl⟩
  have hrl := rows_len W fun r hr => ⟨(hrows r hr).2.1, (hrows r hr).2.2⟩
  have hu := uintB_len10 (n := 2 * W.length) (by omega)
  have hrs : (⟨(Pg.record W).toArray⟩ : ByteArray).size ≤ 1073741824 := by rw [mk_size, record_eq, List.length_append]; omega
  refine ⟨_, rfl, (rframe_spec _ hrs).mono ?_⟩
  rintro v h33 ⟨k33, t, rfl, ht⟩
  have hfl : t.size = (Pg.frameW W).length := ht
  have htl := frameB_len ⟨(Pg.record W).toArray⟩
  have htt := textB_len ⟨(Pg.record W).toArray⟩
  have hu3 := uintB_len10 (n := (⟨(Pg.record W).toArray⟩ : ByteArray).size) (by omega)
  have hT : t.size ≤ 1073741900 := by rw [ht]; omega
  have hpg : IntKind.i64.wrap (IntKind.i64.wrap (IntKind.i64.wrap ((t.size : Int).tdiv 512) + IntKind.i64.wrap ((IntKind.i64.wrap ((t.size : Int).tmod 512 + 511)).tdiv 512)) + (f : Int)) = (Pg.nparts (Pg.frameW W) : Int) + f := by
    have e1 : (t.size : Int).tdiv 512 = ((t.size / 512 : Nat) : Int) := rfl
    have e2 : (t.size : Int).tmod 512 = ((t.size % 512 : Nat) : Int) := rfl
    rw [e1, e2, wrap_i64 (n := ((t.size / 512 : Nat) : Int)) (by omega) (by omega), wrap_i64 (n := ((t.size % 512 : Nat) : Int) + 511) (by omega) (by omega)]
    have e3 : (((t.size % 512 : Nat) : Int) + 511).tdiv 512 = (((t.size % 512 + 511) / 512 : Nat) : Int) := rfl
    rw [e3, wrap_i64 (n := (((t.size % 512 + 511) / 512 : Nat) : Int)) (by omega) (by omega), wrap_i64 (n := ((t.size / 512 : Nat) : Int) + (((t.size % 512 + 511) / 512 : Nat) : Int)) (by omega) (by omega), wrap_i64 (by omega) (by omega)]
    unfold Pg.nparts
    rw [← hfl]; omega
  have kk := kG.trans ((k30.trans (k33.mono k30.size)).mono kG.size)
  refine ⟨_, rfl, by decide, by decide, by decide, ?_⟩
  rw [hpg]
  refine br_intro (fun e4 => ⟨kk, ?_⟩) fun e4 => ⟨kk, ?_⟩
  · have e4 := of_decide_eq_true e4
    unfold Pg.wants
    rw [if_neg hlong, hsq, if_neg (by decide), if_neg hW, hnw, if_pos e4]
  · have e4 := of_decide_eq_false e4
    unfold Pg.wants
    rw [if_neg hlong, hsq, if_neg (by decide), if_neg hW, hnw, if_neg e4]

/-- a step as it came in. -/
structure Sp where
  a : Option Addr
  n : Nat
  c : Nat
  fu : Int
  ke : Int
  ps : Pg.Rw
def StepE : Enc Sp := ⟨3, fun s => [.slice s.a s.n s.c, .int .i64 s.fu, .int .u64 s.ke], fun _ => rfl, fun s v hv => by
  simp only [List.mem_cons, List.not_mem_nil, or_false] at hv
  rcases hv with rfl | rfl | rfl
  · exact one_slice _ _ _
  · exact one_int _ _
  · exact one_int _ _⟩
abbrev Sp.val (s : Sp) : Value := .agg #[.slice s.a s.n s.c, .int .i64 s.fu, .int .u64 s.ke]
def spBox (s : Sp) : Obj := .cells #[.slice s.a s.n s.c, .int .i64 s.fu, .int .u64 s.ke] 47 (0, 0)
structure SpOk (h : Heap) (s : Sp) : Prop where
  fu : s.fu ≤ 9223372036854775807
  ke : 0 ≤ s.ke ∧ s.ke < 18446744073709551616
  ps : Sl PageE h s.a s.n s.ps
  keys : ∀ q ∈ s.ps, -9223372036854775808 ≤ q.1 ∧ q.1 ≤ 9223372036854775807
instance : Inhabited Sp := ⟨⟨none, 0, 0, 0, 0, []⟩⟩
theorem SpOk.keep {h h' : Heap} {s : Sp} (hs : SpOk h s) (k : Keep h.size h h') : SpOk h' s := ⟨hs.fu, hs.ke, hs.ps.keep k, hs.keys⟩
theorem SpOk.turn {h h' : Heap} {s : Sp} (hs : SpOk h s) (t : Turn h h') : SpOk h' s := ⟨hs.fu, hs.ke, hs.ps.updM (S := fun _ => False) t.m fun _ _ _ => id, hs.keys⟩
theorem agSp : agT Tryz.prog 47 3 = true := by kernel_rfl
theorem szSp : szOf Tryz.prog 47 = some 3 := by kernel_rfl
theorem scPs : scT Tryz.prog 23 = true := by kernel_rfl
/-- steps on a heap. -/
structure StepsAt (h : Heap) (A : Option Addr) (n : Nat) (l : List Sp) : Prop where
  sl : Sl StepE h A n l
  each : ∀ s ∈ l, SpOk h s
theorem StepsAt.turn {h h' : Heap} {A : Option Addr} {n : Nat} {l : List Sp} (hs : StepsAt h A n l) (t : Turn h h') : StepsAt h' A n l :=
  ⟨hs.sl.updM (S := fun _ => False) t.m fun _ _ _ => id, fun s hm => (hs.each s hm).turn t⟩
theorem StepsAt.keep {h h' : Heap} {A : Option Addr} {n : Nat} {l : List Sp} (hs : StepsAt h A n l) (k : Keep h.size h h') : StepsAt h' A n l := ⟨hs.sl.keep k, fun s hm => (hs.each s hm).keep k⟩
theorem sp_at {h : Heap} {A : Option Addr} {n k : Nat} {l : List Sp} {s : Sp} (hs : Sl StepE h A n l) (hq : l[k]? = some s) :
    ∃ p, A = some p ∧ Reads Tryz.prog (Instr.loadAt 47 (.pointer (some (p.add (k * 3))))) h (.agg (Array.mk [.slice s.a s.n s.c, .int .i64 s.fu, .int .u64 s.ke])) := by
  obtain ⟨p, e, hp⟩ := hs.get hq
  exact ⟨p, e, reads_load_agg (cs := [.slice s.a s.n s.c, .int .i64 s.fu, .int .u64 s.ke]) agSp rfl fun j v hv => by rw [Addr.add_add]; exact hp j v hv⟩
theorem svc_sp {s : Sp} {h : Heap} {old : Array Value} {K : Unit → Heap → Prop} (ho : old.size = 3) (k : K () (h.push (spBox s))) :
    SVC Tryz.prog (Instr.storeAt 47 (.pointer (some ⟨h.size, 0, none⟩)) (.agg (Array.mk [.slice s.a s.n s.c, .int .i64 s.fu, .int .u64 s.ke]))) (h.push (.cells old 47 (0, 0))) K :=
  svc_store_new (v := s.val) szSp ho (fun v hv => StepE.one s v hv) k
theorem sp_all {s : Sp} {h : Heap} {b : Nat} (hb : h[b]? = some (spBox s)) : Reads Tryz.prog (Instr.loadAt 47 (.pointer (some ⟨b, 0, none⟩))) h (.agg (Array.mk [.slice s.a s.n s.c, .int .i64 s.fu, .int .u64 s.ke])) :=
  reads_load_agg (cs := [.slice s.a s.n s.c, .int .i64 s.fu, .int .u64 s.ke]) agSp rfl (cells_all hb)
theorem sp_ps {s : Sp} {h : Heap} {b : Nat} (hb : h[b]? = some (spBox s)) : Reads Tryz.prog (Instr.loadAt 23 (.pointer (some ⟨b, 0, none⟩))) h (.slice s.a s.n s.c) := reads_load scPs (cell_cells0 hb rfl)
set_option maxHeartbeats 1000000 in
theorem pgreat_spec {h : Heap} {A : Option Addr} {n c : Nat} {l : List Sp} (hs : StepsAt h A n l) (hn : n ≤ 9223372036854775807) (hb : ∀ s ∈ l, s.n ≤ 9223372036854775807) :
    HC Tryz.prog 21 #[.slice A n c] h fun v h' => Keep h.size h h' ∧ ∃ b : Bool, v = .bool b ∧ (b = false → n ≤ 12 ∧ ∀ s ∈ l, s.n ≤ 8) := by
  refine HC_of_vc (args := [.slice A n c]) (base := 37) (cuts := []) (bigs := []) hm Tryz.func21 ?_
  rw [vcPgGreat]
  have hl := hs.sl.1
  refine ⟨fun _ _ n4 H => ∃ k : Nat, n4 = k ∧ k ≤ n ∧ Keep h.size h H ∧ ∀ s ∈ l.take k, s.n ≤ 8, fun _ _ n4 _ => n - n4.toNat, ⟨0, rfl, Nat.zero_le _, Keep.refl _ _, fun q hq => by simp at hq⟩, ?_⟩
  rintro b2 n3 n4 H ⟨k, rfl, hk, kH, hsm⟩
  refine br_intro (fun e => ?_) fun e => ⟨kH, _, rfl, fun h2 => ?_⟩
  · have e := of_decide_eq_true e
    have hlt : k < n := by omega
    have hq : l[k]? = some (l[k]'(by omega)) := List.getElem?_eq_getElem (by omega)
    have hmem := List.getElem_mem (by omega : k < l.length)
    have htake : l.take (k + 1) = l.take k ++ [l[k]'(by omega)] := List.take_succ_eq_append_getElem (by omega)
    generalize l[k]'(by omega) = s at hq hmem htake
    have so := (hs.each s hmem).keep kH
    have hsn := hb s hmem
    obtain ⟨p, ea, rd⟩ := sp_at (hs.sl.keep kH) hq
    refine ⟨p, ⟨ea, by omega, by omega⟩, _, _, _, _, _, rd, svc_sp rfl ?_⟩
    have bx := push_at H (spBox s)
    have kb := keep_push H (spBox s)
    have kk := kH.trans (kb.mono kH.size)
    have so2 := so.keep kb
    generalize H.push (spBox s) = H2 at bx kk so2
    refine ⟨_, _, _, sp_ps bx, br_intro (fun e2 => ⟨kk, _, rfl, fun h => by cases h⟩) fun e2 => ⟨_, _, _, sp_ps bx, ?_⟩⟩
    have e2 := of_decide_eq_false e2
    refine ⟨fun _ _ n24 G => ∃ j : Nat, n24 = j ∧ j ≤ s.n ∧ Keep H2.size H2 G, fun _ _ n24 _ => s.n - n24.toNat, ⟨0, rfl, Nat.zero_le _, Keep.refl _ _⟩, ?_⟩
    rintro b22 n23 n24 G ⟨j, rfl, hj, kG⟩
    have hpl := so2.ps.1
    refine br_intro (fun e3 => ?_) fun e3 => ?_
    · have e3 := of_decide_eq_true e3
      have hjl : j < s.n := by omega
      have hp : s.ps[j]? = some (s.ps[j]'(by omega)) := List.getElem?_eq_getElem (by omega)
      generalize s.ps[j]'(by omega) = q at hp
      obtain ⟨p26, eb, rd2⟩ := pg_at (so2.ps.keep kG) hp
      have kb2 := keep_push G (pgBox q)
      refine ⟨p26, ⟨eb, by omega, by omega⟩, _, _, rd2, svc_pg rfl ⟨_, pg_s (push_at _ _), br_intro (fun e4 => ⟨kk.trans ((kG.trans (kb2.mono kG.size)).mono kk.size), _, rfl, fun h => by cases h⟩) fun e4 => ?_⟩⟩
      rw [wrap_i64 (n := (j : Int) + 1) (by omega) (by omega)]
      exact ⟨⟨j + 1, rfl, hjl, kG.trans (kb2.mono kG.size)⟩, by dsimp only; omega⟩
    · rw [wrap_i64 (n := (k : Int) + 1) (by omega) (by omega)]
      refine ⟨⟨k + 1, rfl, hlt, kk.trans (kG.mono kk.size), fun r hr => ?_⟩, by dsimp only; omega⟩
      rw [htake] at hr
      rcases List.mem_append.1 hr with h1 | h1
      · exact hsm r h1
      · rw [List.mem_singleton.1 h1]; omega
  · have e := of_decide_eq_false e
    have h2 := of_decide_eq_false h2
    have hkn : k = l.length := by omega
    rw [hkn, List.take_length] at hsm
    exact ⟨by omega, hsm⟩
end Go.Proofs.YthkhaobmhheoaaaGreat
end

section
set_option linter.unusedVariables false
set_option linter.unusedSimpArgs false
set_option maxRecDepth 100000
namespace Go.Proofs.YthkhaobmhheoaaaGreat
open Go Go.Vc Go.Proofs Go.Dk Go.Cd
open Go.Pg (SrtI)

/-- the last text of a number. -/
def lastP : Pg.Rw → Int → Option Str
  | [], _ => none
  | q :: P, k => match lastP P k with | some s => some s | none => if q.1 = k then some q.2 else none
theorem lastP_app (q : Int × Str) (k : Int) : ∀ P : Pg.Rw, lastP (P ++ [q]) k = if q.1 = k then some q.2 else lastP P k
  | [] => by simp [lastP]
  | p :: P => by
    rw [List.cons_append, lastP, lastP_app q k P]
    by_cases h : q.1 = k
    · simp [h]
    · simp [h, lastP]
theorem lastP_none {P : Pg.Rw} {k : Int} : lastP P k = none ↔ ∀ q ∈ P, q.1 ≠ k := by
  induction P with
  | nil => simp [lastP]
  | cons p P ih =>
    rw [lastP]
    cases h : lastP P k with
    | none =>
      have := ih.1 h
      by_cases h2 : p.1 = k
      · simp [h2]
      · simp only [if_neg h2, true_iff]
        intro q hq
        rcases List.mem_cons.1 hq with rfl | hq
        · exact h2
        · exact this q hq
    | some s =>
      simp only [reduceCtorEq, false_iff]
      intro h2
      rw [ih.2 fun q hq => h2 q (List.mem_cons_of_mem _ hq)] at h
      cases h
theorem lastP_at : ∀ (P : Pg.Rw) (j : Nat) (q : Int × Str), P[j]? = some q → (∀ j' q', j < j' → P[j']? = some q' → q'.1 ≠ q.1) → lastP P q.1 = some q.2
  | [], j, q, h, _ => by simp at h
  | p :: P, 0, q, h, hl => by
    cases h
    have : lastP P p.1 = none := lastP_none.2 fun r hr => by
      obtain ⟨i, hi⟩ := List.mem_iff_getElem?.1 hr
      exact hl (i + 1) r (by omega) hi
    rw [lastP, this]; simp
  | p :: P, j + 1, q, h, hl => by
    have := lastP_at P j q h fun j' q' h1 h2 => hl (j' + 1) q' (by omega) h2
    rw [lastP, this]
/-- is it behind the last one? -/
def cand (lim : Option Int) (k : Int) : Prop := match lim with | none => True | some t => t < k
/-- the best so far. -/
def Best (P : Pg.Rw) (lim : Option Int) (j : Nat) (b : Int) : Prop :=
  (b = -1 ∧ ∀ k q, k < j → P[k]? = some q → ¬ cand lim q.1) ∨
  ∃ (k : Nat) (q : Int × Str), b = k ∧ k < j ∧ P[k]? = some q ∧ cand lim q.1 ∧ ∀ k' q', k' < j → P[k']? = some q' → cand lim q'.1 → q.1 ≤ q'.1 ∧ (q'.1 = q.1 → k' ≤ k)
theorem Best.zero (P : Pg.Rw) (lim : Option Int) : Best P lim 0 (-1) := .inl ⟨rfl, fun k q h => by omega⟩
theorem Best.skip {P : Pg.Rw} {lim : Option Int} {j : Nat} {b : Int} {q : Int × Str} (hb : Best P lim j b) (hq : P[j]? = some q)
    (h : ¬ cand lim q.1 ∨ ∃ (k : Nat) (r : Int × Str), b = k ∧ P[k]? = some r ∧ r.1 < q.1) : Best P lim (j + 1) b := by
  rcases hb with ⟨rfl, h1⟩ | ⟨k, r, rfl, h1, h2, h3, h4⟩
  · refine .inl ⟨rfl, fun k r hk hr => ?_⟩
    by_cases e : k = j
    · subst e
      rw [hq] at hr; cases hr
      rcases h with h | ⟨k', r, e, _⟩
      · exact h
      · omega
    · exact h1 k r (by omega) hr
  · refine .inr ⟨k, r, rfl, by omega, h2, h3, fun k' r' hk hr hc => ?_⟩
    by_cases e : k' = j
    · subst e
      rw [hq] at hr; cases hr
      rcases h with h | ⟨k2, r2, e, h5, h6⟩
      · exact absurd hc h
      · have : k = k2 := by omega
        subst this
        rw [h2] at h5; cases h5
        exact ⟨by omega, fun e => by omega⟩
    · exact h4 k' r' (by omega) hr hc
theorem Best.take {P : Pg.Rw} {lim : Option Int} {j : Nat} {b : Int} {q : Int × Str} (hb : Best P lim j b) (hq : P[j]? = some q) (hc : cand lim q.1)
    (h : b < 0 ∨ ∃ (k : Nat) (r : Int × Str), b = k ∧ P[k]? = some r ∧ q.1 ≤ r.1) : Best P lim (j + 1) j := by
  refine .inr ⟨j, q, rfl, by omega, hq, hc, fun k' r' hk hr hc' => ?_⟩
  by_cases e : k' = j
  · subst e
    rw [hq] at hr; cases hr
    exact ⟨Int.le_refl _, fun _ => Nat.le_refl _⟩
  · rcases hb with ⟨rfl, h1⟩ | ⟨k, r, rfl, h1, h2, h3, h4⟩
    · exact absurd hc' (h1 k' r' (by omega) hr)
    · have := h4 k' r' (by omega) hr hc'
      rcases h with h | ⟨k2, r2, e2, h5, h6⟩
      · omega
      · have : k = k2 := by omega
        subst this
        rw [h2] at h5; cases h5
        exact ⟨by omega, fun e => by omega⟩
/-- the last of what has come out. -/
def limW (W : Pg.Rw) (i : Nat) : Option Int := if i = 0 then none else (W[i - 1]?).map (·.1)
theorem best_row {P W : Pg.Rw} {ml : List (Int × Bv)} {i : Nat} {b : Int} (hW : Rows ml W) (hn : (mKeys ml).Nodup) (hl : ∀ k, (mGet ml k).map (·.s) = lastP P k) (hi : i < W.length) (hb : Best P (limW W i) P.length b) :
    ∃ k : Nat, b = k ∧ k < P.length ∧ P[k]? = W[i]? := by
  have hs := hW.srt
  have hw : W[i]? = some W[i] := List.getElem?_eq_getElem hi
  have rise : ∀ (a c : Nat) (ra rc : Int × Str), W[a]? = some ra → W[c]? = some rc → a < c → ra.1 < rc.1 := fun a c ra rc ha hc hac => by
    obtain ⟨h1, rfl⟩ := List.getElem?_eq_some_iff.1 ha
    obtain ⟨h2, rfl⟩ := List.getElem?_eq_some_iff.1 hc
    have := List.pairwise_iff_getElem.1 hs a c (by simpa using h1) (by simpa using h2) hac
    simpa using this
  have inW : ∀ r ∈ W, lastP P r.1 = some r.2 := fun r hr => by
    obtain ⟨v, g1, g2, _⟩ := hW.get hn hr
    rw [← hl, g1, ← g2]; rfl
  have ofP : ∀ q ∈ P, ∃ (c : Nat) (r : Int × Str), W[c]? = some r ∧ r.1 = q.1 := fun q hq => by
    have h1 : mGet ml q.1 ≠ none := fun h => by
      have := hl q.1
      rw [h] at this
      exact lastP_none.1 this.symm q hq rfl
    cases hg : mGet ml q.1 with
    | none => exact absurd hg h1
    | some v =>
      have hm := (mGet_mem hn q.1 v).2 hg
      have : (q.1, v.s) ∈ W := hW.perm.mem_iff.2 (List.mem_map.2 ⟨(q.1, v), hm, rfl⟩)
      obtain ⟨c, hc⟩ := List.mem_iff_getElem?.1 this
      exact ⟨c, _, hc, rfl⟩
  have candW : ∀ (c : Nat) (r : Int × Str), W[c]? = some r → i ≤ c → cand (limW W i) r.1 := fun c r hc hic => by
    unfold limW
    by_cases h0 : i = 0
    · rw [if_pos h0]; exact trivial
    · rw [if_neg h0, List.getElem?_eq_getElem (by omega : i - 1 < W.length)]
      show (W[i - 1]'(by omega)).1 < r.1
      exact rise (i - 1) c _ r (List.getElem?_eq_getElem (by omega)) hc (by omega)
  have candI : ∀ (c : Nat) (r : Int × Str), W[c]? = some r → cand (limW W i) r.1 → i ≤ c := fun c r hc hcd => by
    rcases Nat.lt_or_ge c i with h | h
    · exfalso
      unfold limW at hcd
      rw [if_neg (by omega), List.getElem?_eq_getElem (by omega : i - 1 < W.length)] at hcd
      have hcd : (W[i - 1]'(by omega)).1 < r.1 := hcd
      by_cases e : c = i - 1
      · subst e
        rw [List.getElem?_eq_getElem (by omega)] at hc
        have hc := Option.some.inj hc
        rw [hc] at hcd
        omega
      · have := rise c (i - 1) r _ hc (List.getElem?_eq_getElem (by omega)) (by omega)
        omega
    · exact h
  have hwm : W[i] ∈ W := List.getElem_mem hi
  obtain ⟨q0, hq0, e0⟩ : ∃ q ∈ P, q.1 = W[i].1 := by
    have h1 := inW _ hwm
    by_cases h2 : ∃ q ∈ P, q.1 = W[i].1
    · exact h2
    · exfalso
      have := lastP_none.2 fun q hq e => h2 ⟨q, hq, e⟩
      rw [this] at h1; cases h1
  obtain ⟨j0, hj0⟩ := List.mem_iff_getElem?.1 hq0
  have hj0l := (List.getElem?_eq_some_iff.1 hj0).1
  have c0 : cand (limW W i) q0.1 := by rw [e0]; exact candW i _ hw (Nat.le_refl _)
  rcases hb with ⟨_, h1⟩ | ⟨k, q, rfl, h1, h2, h3, h4⟩
  · exact absurd c0 (h1 j0 q0 hj0l hj0)
  · refine ⟨k, rfl, h1, ?_⟩
    have le := (h4 j0 q0 hj0l hj0 c0).1
    obtain ⟨c, r, hc, er⟩ := ofP q (List.mem_of_getElem? h2)
    have hic := candI c r hc (by rw [er]; exact h3)
    have hci : c = i := by
      rcases Nat.lt_or_ge i c with h | h
      · have := rise i c _ r hw hc h; omega
      · omega
    subst hci
    rw [hw] at hc
    cases hc
    have e2 : lastP P q.1 = some q.2 := lastP_at P k q h2 fun j' q' hj' hq' e => by
      have := h4 j' q' (List.getElem?_eq_some_iff.1 hq').1 hq' (by rw [e]; exact h3)
      have := this.2 e
      omega
    have e3 := inW _ hwm
    rw [er, e2] at e3
    rw [h2, hw]
    congr 1
    exact Prod.ext er.symm (Option.some.inj e3)
/-- rows there are. -/
theorem rows_ex {ml : List (Int × Bv)} (hn : (mKeys ml).Nodup) : ∃ W, Rows ml W := by
  refine ⟨(rw0 ml).mergeSort fun a b => decide (a.1 ≤ b.1), List.mergeSort_perm _ _, ?_⟩
  have h1 := List.pairwise_mergeSort (le := fun a b : Int × Str => decide (a.1 ≤ b.1)) (fun a b c h1 h2 => by simp at *; omega) (fun a b => by simp; omega) (rw0 ml)
  have h2 : (((rw0 ml).mergeSort fun a b => decide (a.1 ≤ b.1)).map (·.1)).Nodup := by
    refine (((List.mergeSort_perm _ _).map _).nodup_iff).2 ?_
    rw [List.map_map]; exact hn
  have h3 : (((rw0 ml).mergeSort fun a b => decide (a.1 ≤ b.1)).map (·.1)).Pairwise fun a b => a ≤ b := List.pairwise_map.2 (h1.imp fun {a b} h => of_decide_eq_true h)
  refine (h3.and h2).imp fun {a b} h => ?_
  have h4 := h.1
  have h5 := h.2
  omega
end Go.Proofs.YthkhaobmhheoaaaGreat
end

section
set_option linter.unusedVariables false
set_option linter.unusedSimpArgs false
set_option maxRecDepth 100000
namespace Go.Proofs.YthkhaobmhheoaaaGreat
open Go Go.Vc Go.Proofs Go.Dk Go.Cd
open Go.Pg (SrtI)

theorem mem_put {κ ν : Type} [DecidableEq κ] : ∀ (m : List (κ × ν)) (k : κ) (v : ν) (p : κ × ν), p ∈ mPut m k v → p ∈ m ∨ p = (k, v)
  | [], k, v, p, h => by simp [mPut] at h; exact .inr h
  | a :: m, k, v, p, h => by
    unfold mPut at h
    split at h
    · rcases List.mem_cons.1 h with h | h
      · exact .inr h
      · exact .inl (List.mem_cons_of_mem _ h)
    · rcases List.mem_cons.1 h with h | h
      · exact .inl (h ▸ List.mem_cons_self)
      · exact (mem_put m k v p h).imp (List.mem_cons_of_mem _) id
theorem len_put {κ ν : Type} [DecidableEq κ] : ∀ (m : List (κ × ν)) (k : κ) (v : ν), (mPut m k v).length ≤ m.length + 1
  | [], k, v => by simp [mPut]
  | a :: m, k, v => by
    unfold mPut
    split
    · simp
    · have := len_put m k v
      simp only [List.length_cons]; omega
theorem bs_pg (q : Int × Str) : bsCells Tryz.prog 23 1 [(0, pgVal q)] = some (27, PageE.enc q) :=
  bs_one (v := pgVal q) app_pg.und app_pg.size app_pg.zero app_pg.zlen (by decide) (by decide) rfl
theorem undMi0 : Tryz.prog.underlying 48 = some (.map 3 22) := undMi
set_option maxHeartbeats 4000000 in
theorem writes_spec {h : Heap} {s : Sp} (hs : SpOk h s) (hn : s.n ≤ 100000) :
    HC Tryz.prog 22 #[.agg #[.slice s.a s.n s.c, .int .i64 s.fu, .int .u64 s.ke]] h fun v h' => Keep h.size h h' ∧ ∃ (r : Nat) (a : Option Addr) (k c : Nat) (ml : List (Int × Bv)) (W : Pg.Rw),
      v = .tuple #[.map (some r), .slice a k c] ∧ Rows ml W ∧ PgsAt (fun q => h.size ≤ q ∧ q < h'.size) h' r ml ∧ Sl PageE h' a k W ∧ (∀ q, blk a q → h.size ≤ q ∧ q < h'.size) ∧ (∀ q ∈ W, -9223372036854775808 ≤ q.1 ∧ q.1 ≤ 9223372036854775807) ∧ ml.length ≤ s.n := by
  refine HC_of_vc (args := [.agg #[.slice s.a s.n s.c, .int .i64 s.fu, .int .u64 s.ke]]) (base := 83) (cuts := [16]) (bigs := []) hm Tryz.func22 ?_
  rw [vcWrites]
  simp only [Array.size_push]
  generalize hH : (Array.push h (Obj.cells (Array.mk [Value.slice s.a s.n s.c, Value.int .i64 s.fu, Value.int .u64 s.ke]) 47)).push (Obj.map (Array.mk []) 0) = H0
  have b0 : H0[h.size]? = some (spBox s) := by rw [← hH]; exact push2_0 _ _ _
  have m0 : MapAt Mi H0 (h.size + 1) [] := by
    rw [← hH]
    have := MapAt.new Mi (Array.push h (spBox s))
    rw [Array.size_push] at this; exact this
  have k0 : Keep h.size h H0 := by rw [← hH]; exact (keep_push h _).trans (Keep.push _ _ _ (by simp))
  have z0 : H0.size = h.size + 2 := by rw [← hH]; simp
  clear hH
  have hpl := hs.ps.1
  refine ⟨_, _, _, sp_ps b0, fun n5 H => ∃ (j : Nat) (ml : List (Int × Bv)), n5 = j ∧ j ≤ s.n ∧ Keep h.size h H ∧ h.size + 2 ≤ H.size ∧ H[h.size]? = some (spBox s) ∧ MapAt Mi H (h.size + 1) ml ∧ (∀ v ∈ ml, BvOk (fun q => h.size + 2 ≤ q ∧ q < H.size) H v.2) ∧
      (∀ k, (mGet ml k).map (·.s) = lastP (s.ps.take j) k) ∧ (∀ k ∈ mKeys ml, I64 k) ∧ ml.length ≤ j, fun n5 _ => s.n - n5.toNat, ⟨0, [], rfl, Nat.zero_le _, k0, by omega, b0, m0, fun v hv => (by cases hv), fun k => rfl, fun k hk => (by cases hk), Nat.le_refl _⟩, ?_⟩
  rintro n5 H ⟨j, ml, rfl, hj, kH, zH, bH, mH, okH, hlast, hkeys, hml⟩
  refine br_intro (fun e => ?_) fun e => ?_
  · have e := of_decide_eq_true e
    have hlt : j < s.n := by omega
    have hq : s.ps[j]? = some (s.ps[j]'(by omega)) := List.getElem?_eq_getElem (by omega)
    have hkq := hs.keys _ (List.getElem_mem (by omega : j < s.ps.length))
    generalize s.ps[j]'(by omega) = q at hq hkq
    obtain ⟨p, ea, rd⟩ := pg_at (hs.ps.keep kH) hq
    refine ⟨p, ⟨ea, by omega, by omega⟩, _, _, rd, svc_pg rfl ⟨_, pg_i (push_at _ _), _, pg_s (push_at _ _), ?_⟩⟩
    have kb := keep_push H (pgBox q)
    generalize hG : H.push (pgBox q) = G at kb
    have zG : G.size = H.size + 1 := by rw [← hG]; simp
    refine svc_bytes undS undBs undB fun a c h15 k15 z15 sl15 hc15 hb15 => ⟨_, _, _, rfl, ?_⟩
    have kHc := kb.trans (k15.mono kb.size)
    refine svc_mapUpdate (M := Mi) (k := q.1) (v := ⟨a, q.2.size, c, q.2⟩) (mH.keep kHc) fun h20 z20 u20 m20 => ?_
    rw [wrap_i64 (by omega) (by omega)]
    have hne : ∀ b, h.size + 2 ≤ b → ¬ (b = h.size + 1) := fun b hb => by omega
    refine ⟨⟨j + 1, _, rfl, hlt, (kH.trans (kHc.mono kH.size)).trans (u20.keep (by omega) fun i e => by omega), by omega, u20.at (kHc.at bH (at_lt bH)) (by omega), m20, fun v hv => ?_, fun k => ?_, fun k hk => ?_, ?_⟩, by dsimp only; omega⟩
    · rcases mem_put _ _ _ _ hv with hv | rfl
      · exact (((okH v hv).updM (S := fun _ => False) kHc.m fun _ _ => id).updM u20.m fun q hq e => hne q hq.1 e).mono fun q hq => ⟨hq.1, by omega⟩
      · exact ⟨sl15.upd u20 fun b hb e => (by have := hb15 b hb; omega), hc15, fun _ b hb => ⟨by have := hb15 b hb; omega, by have := hb15 b hb; omega⟩⟩
    · rw [mGet_put, take_row hq, lastP_app]
      by_cases hk : q.1 = k
      · rw [if_pos hk, if_pos hk]; rfl
      · rw [if_neg hk, if_neg hk]; exact hlast k
    · rcases (mKeys_put _ _ _ _).1 hk with rfl | hk
      · exact ⟨by omega, by omega⟩
      · exact hkeys k hk
    · have := len_put ml q.1 ⟨a, q.2.size, c, q.2⟩
      omega
  have e := of_decide_eq_false e
  have hjn : j = s.ps.length := by omega
  rw [hjn, List.take_length] at hlast
  have hnd : (mKeys ml).Nodup := by obtain ⟨_, _, _, _, h, _⟩ := mH; exact h
  obtain ⟨W, hW⟩ := rows_ex hnd
  have hWl := hW.len
  refine svc_range (M := Mi) mH fun h22 k22 z22 i22 => ⟨_, rfl, ?_⟩
  have sps22 := (hs.ps.keep kH).keep k22
  have b22 := k22.at bH (at_lt bH)
  have ne22 : ∀ b, blk s.a b → s.n ≠ 0 → b < h.size := fun b hb h0 => blk_in (by decide) hs.ps h0 b hb
  refine ⟨fun a k c G => ∃ left cur, IterAt Mi G H.size (h.size + 1) ml left cur ∧ Upd (fun q => q = H.size) h22 G ∧ left.length ≤ ml.length ∧ Vc.Own PageE 27 h22.size G a k c (W.take (ml.length - left.length)),
    fun _ _ _ G => leftN G H.size, ⟨ml, none, i22, Upd.refl _ _, Nat.le_refl _, by rw [Nat.sub_self, List.take_zero]; exact Vc.Own.nil _ _ _⟩, ?_⟩
  rintro a26 k27 k28 G ⟨left, cur, hit, uG, hll, oG⟩
  have hl27 := oG.1
  rw [List.length_take] at hl27
  have bG := uG.at b22 (by omega)
  have slG := sps22.updM uG.m fun h0 b hb e => (by have := ne22 b hb h0; omega)
  refine svc_next hit (fun hl0 => .inl ⟨rfl, ?_⟩) fun j0 q0 h31 hj0 u31 z31 i31 => .inr ⟨_, _, rfl, ?_⟩
  · subst hl0
    simp only [List.length_nil, Nat.sub_zero] at oG
    rw [List.take_of_length_le (by omega)] at oG
    have kG : Keep h.size h G := kH.trans ((k22.mono kH.size).trans (uG.keep (by omega) fun i e => by omega))
    refine ⟨kG, _, _, _, _, ml, W, rfl, hW, ⟨hit.map, ⟨by omega, hit.map.lt⟩, fun v hv => ?_, hkeys, by omega⟩, oG.sl, fun q hq => ⟨by have := (oG.block q hq).1; omega, (oG.block q hq).2⟩, fun q hq => ?_, by omega⟩
    · exact (((okH v hv).updM (S := fun _ => False) k22.m fun _ _ => id).updM uG.m fun q hq e => by omega).mono fun q hq => ⟨by omega, by have := uG.size; omega⟩
    · obtain ⟨v, _, _, hm⟩ := hW.get hnd hq
      have := hkeys q.1 (List.mem_map_of_mem hm)
      exact ⟨this.1, by omega⟩
  -- the best of what is behind the last one
  have hj0l := (List.getElem?_eq_some_iff.1 hj0).1
  have hlen' : (left.eraseIdx j0).length = left.length - 1 := by rw [List.length_eraseIdx, if_pos hj0l]
  obtain ⟨i, hi⟩ : ∃ i, i = ml.length - left.length := ⟨_, rfl⟩
  rw [← hi] at oG hl27
  have hiW : i < W.length := by omega
  have e27 : k27 = i := by omega
  have u2231 : Upd (fun q => q = H.size) h22 h31 := uG.trans u31
  have b31 := u31.at bG (by omega)
  have sl31 := slG.updM u31.m fun h0 b hb e => (by have := ne22 b hb h0; omega)
  have o31 := oG.upd u31 fun b hb e => (by have := (oG.block b hb).1; omega)
  have z3122 := u2231.size
  refine ⟨_, _, _, sp_ps b31, fun n39 n40 F => ∃ jj : Nat, n40 = jj ∧ jj ≤ s.n ∧ Best s.ps (limW W i) jj n39 ∧ Keep h31.size h31 F, fun _ n40 _ => s.n - n40.toNat, ⟨0, rfl, Nat.zero_le _, Best.zero _ _, Keep.refl _ _⟩, ?_⟩
  rintro n39 n40 F ⟨jj, rfl, hjj, hbest, kF⟩
  refine br_intro (fun e2 => ?_) fun e2 => ?_
  · have e2 := of_decide_eq_true e2
    have hlt : jj < s.n := by omega
    have hq : s.ps[jj]? = some (s.ps[jj]'(by omega)) := List.getElem?_eq_getElem (by omega)
    generalize s.ps[jj]'(by omega) = q at hq
    obtain ⟨p, ea, rd⟩ := pg_at (sl31.keep kF) hq
    have kb := keep_push F (pgBox q)
    have kF2 := kF.trans (kb.mono kF.size)
    have bF := push_at F (pgBox q)
    -- what stands last
    have oF2 := o31.upd (kF2.upd fun _ => False) fun _ _ h => h
    obtain ⟨p49, n50, x1, x2, x3⟩ : ∃ (p49 : Addr) (n50 : Int), ((!((k27 : Int) == 0)) = true → a26 = some p49 ∧ 0 ≤ IntKind.i64.wrap ((k27 : Int) - 1) ∧ IntKind.i64.wrap ((k27 : Int) - 1) < (k27 : Int)) ∧
        ((!((k27 : Int) == 0)) = true → Reads Tryz.prog (Instr.loadAt 3 (.pointer (some (p49.add ((IntKind.i64.wrap ((k27 : Int) - 1)).toNat * 2))))) (F.push (pgBox q)) (.int .i64 n50)) ∧
        (((k27 : Int) == 0 || decide (q.1 > n50)) = true ↔ cand (limW W i) q.1) := by
      by_cases h0 : i = 0
      · refine ⟨⟨0, 0, none⟩, 0, fun h => ?_, fun h => ?_, ?_⟩
        · rw [e27, h0] at h; simp at h
        · rw [e27, h0] at h; simp at h
        · rw [e27, h0]; simp [limW, cand]
      · have hw : (W.take i)[i - 1]? = some (W[i - 1]'(by omega)) := by rw [List.getElem?_take, if_pos (by omega), List.getElem?_eq_getElem (by omega)]
        obtain ⟨p49, ep, hc⟩ := oF2.sl.get hw
        have hwr : IntKind.i64.wrap ((k27 : Int) - 1) = ((i - 1 : Nat) : Int) := by rw [wrap_i64 (by omega) (by omega)]; omega
        refine ⟨p49, (W[i - 1]'(by omega)).1, fun _ => ⟨ep, by omega, by omega⟩, fun _ => ?_, ?_⟩
        · rw [hwr]
          exact reads_load scI (hc 0 _ rfl)
        · have hk0 : ((k27 : Int) == 0) = false := by simp; omega
          rw [hk0]
          unfold limW cand
          rw [if_neg h0, List.getElem?_eq_getElem (by omega : i - 1 < W.length)]
          simp
    obtain ⟨p55, n56, y1, y2, y3⟩ : ∃ (p55 : Addr) (n56 : Int), (¬ n39 < 0 → s.a = some p55 ∧ 0 ≤ n39 ∧ n39 < (s.n : Int)) ∧ (¬ n39 < 0 → Reads Tryz.prog (Instr.loadAt 3 (.pointer (some (p55.add (n39.toNat * 2))))) (F.push (pgBox q)) (.int .i64 n56)) ∧
        (¬ n39 < 0 → ∃ (k : Nat) (r : Int × Str), n39 = k ∧ s.ps[k]? = some r ∧ n56 = r.1) := by
      rcases hbest with ⟨rfl, _⟩ | ⟨k, r, rfl, h1, h2, _⟩
      · exact ⟨⟨0, 0, none⟩, 0, fun h => by omega, fun h => by omega, fun h => by omega⟩
      · obtain ⟨p55, ep, hc⟩ := (sl31.keep kF2).get h2
        refine ⟨p55, r.1, fun _ => ⟨ep, by omega, by omega⟩, fun _ => ?_, fun _ => ⟨k, r, rfl, h2, rfl⟩⟩
        rw [Int.toNat_natCast]
        exact reads_load scI (hc 0 _ rfl)
    refine ⟨fun n57 g => Best s.ps (limW W i) (jj + 1) n57 ∧ Keep h31.size h31 g, ⟨p, ⟨ea, by omega, by omega⟩, _, _, rd, svc_pg rfl ⟨q.1, fun _ => pg_i bF, p49, x1, n50, x2, q.1, fun _ => pg_i bF, s.a, s.n, s.c, fun _ => sp_ps (kF2.at b31 (at_lt b31)), p55, fun h => ?_, n56, fun h => ?_, ?_⟩⟩, ?_⟩
    · exact y1 fun h1 => by simp [h1] at h
    · exact y2 fun h1 => by simp [h1] at h
    · refine br_intro (fun e3 => ⟨?_, kF2⟩) fun e3 => ⟨?_, kF2⟩
      · rw [Bool.and_eq_true] at e3
        refine hbest.take hq (x3.1 e3.1) ?_
        by_cases h1 : n39 < 0
        · exact .inl h1
        · obtain ⟨k, r, e4, e5, e6⟩ := y3 h1
          refine .inr ⟨k, r, e4, e5, ?_⟩
          have := e3.2
          simp only [Bool.or_eq_true, decide_eq_true_eq] at this
          rw [e6] at this; exact this.resolve_left h1
      · refine hbest.skip hq ?_
        by_cases hc : cand (limW W i) q.1
        · have h2 := x3.2 hc
          rw [h2, Bool.true_and] at e3
          simp only [Bool.or_eq_false_iff, decide_eq_false_iff_not] at e3
          obtain ⟨k, r, e4, e5, e6⟩ := y3 e3.1
          exact .inr ⟨k, r, e4, e5, by have := e3.2; omega⟩
        · exact .inl hc
    · rintro n57 g ⟨hb, kg⟩
      rw [wrap_i64 (by omega) (by omega)]
      exact ⟨⟨jj + 1, rfl, hlt, hb, kg⟩, by dsimp only; omega⟩
  · have e2 := of_decide_eq_false e2
    have hjn2 : jj = s.ps.length := by omega
    subst hjn2
    obtain ⟨k, rfl, hk, hkW⟩ := best_row hW hnd hlast hiW hbest
    have hq : s.ps[k]? = some (s.ps[k]'hk) := List.getElem?_eq_getElem hk
    generalize s.ps[k]'hk = q at hq
    have bF := kF.at b31 (at_lt b31)
    obtain ⟨p, ea, rd⟩ := pg_at (sl31.keep kF) hq
    refine br_intro (fun e3 => ⟨_, _, _, sp_ps bF, p, ⟨ea, by omega, by omega⟩, _, _, rd, ?_⟩) fun e3 => by have := of_decide_eq_false e3; omega
    refine svc_append1 (x := q) (v := pgVal q) app_pg (o31.upd (kF.upd fun _ => False) fun _ _ h => h) (Nat.le_trans z3122 kF.size) (bs_pg q) (by omega) fun a' c' G' o' u' b' => ⟨⟨left.eraseIdx j0, some q0, ?_, ?_, by omega, ?_⟩, ?_⟩
    · exact (i31.upd (kF.upd fun q => False) (fun h => h) fun h => h).upd u' (fun hb => by have := (o31.block _ hb).1; omega) (fun hb => by have := (o31.block _ hb).1; omega)
    · refine ⟨Nat.le_trans z3122 (Nat.le_trans kF.size u'.size), fun b hb hs => ?_⟩
      have z1 := kF.size
      rw [u'.block b (by omega) (fun hbl => by have := (o31.block b hbl).1; omega), kF.block b (by omega), u2231.block b hb hs]
    · rw [hlen']
      have e5 : ml.length - (left.length - 1) = i + 1 := by omega
      have e6 : W.take (i + 1) = W.take i ++ [q] := take_row (by rw [← hkW]; exact hq)
      rw [e5, e6]; exact o'
    · dsimp only
      have h1 := (i31.upd (kF.upd fun q => False) (fun h => h) fun h => h).upd u' (fun hb => by have := (o31.block _ hb).1; omega) (fun hb => by have := (o31.block _ hb).1; omega)
      rw [h1.leftN, hit.leftN, hlen']; omega
end Go.Proofs.YthkhaobmhheoaaaGreat
end

section
set_option linter.unusedVariables false
set_option linter.unusedSimpArgs false
set_option maxRecDepth 100000
namespace Go.Proofs.YthkhaobmhheoaaaGreat
open Go Go.Vc Go.Proofs Go.Dk Go.Cd
open Go.Pg (SrtI Quiet Nx)

/-- the machine's own blocks stay too. -/
theorem hc_keep {P : Program} {f : FuncId} {args : Array Value} {h : Heap} {Q : Value → Heap → Prop} (hc : HC P f args h fun v h' => Turn h h' ∧ Q v h') : HC P f args h fun v h' => Keep h.size h h' ∧ Q v h' := by
  refine ⟨fun w hw => (hc.run w hw).mono ?_⟩
  rintro e w' ⟨v, rfl, hs, t, q⟩
  refine ⟨v, rfl, hs, ⟨t.size, fun b hb => ?_⟩, q⟩
  subst hw
  have hb' : w.heap[b]? = some (w.heap[b]'hb) := Array.getElem?_eq_getElem hb
  cases hm : isMark (w.heap[b]'hb) with
  | true => rw [hb']; exact hs.marks b _ hb' hm
  | false => rw [hb']; exact t.stay b _ hb' hm
section
variable {h h' : Heap} {p d r : Nat} {nm : Str} {N S : Nat → Prop} {x : D} {ml : List (Int × Bv)} {W : Pg.Rw}
theorem has_none (hdn : x.down = false) {n : Str} : Dk.has x n = (mGet x.now n).isSome := by unfold Dk.has; rw [hdn]; rfl
theorem open_quiet (hd : DN N d x h) (hnm : nm.size ≤ 1073741824) (hdn : x.down = false) (hT : mGet x.now (Pg.nmT nm) = none) (hJ : mGet x.now (Pg.nmJ nm) = none) :
    HC Tryz.prog 18 #[.pointer (some ⟨d, 0, none⟩), .string nm] h fun v h' => Keep h.size h h' ∧ h'.size = h.size + 1 ∧ v = .tuple #[.pointer (some ⟨h.size, 0, none⟩), .int .i64 0] ∧ PagerAt h' h.size d nm := by
  refine HC_of_vc (args := [.pointer (some ⟨d, 0, none⟩), .string nm]) (base := 38) (cuts := [10]) (bigs := []) hm Tryz.func18 ?_
  rw [vcOpen]
  have kp := keep_push h (Obj.cells (Array.mk [Value.pointer (some (Addr.mk d 0 none)), Value.string nm]) 108 (0, 0))
  have pa : PagerAt (h.push (Obj.cells (Array.mk [Value.pointer (some (Addr.mk d 0 none)), Value.string nm]) 108 (0, 0))) h.size d nm := ⟨push_at _ _, hnm⟩
  have z : (h.push (Obj.cells (Array.mk [Value.pointer (some (Addr.mk d 0 none)), Value.string nm]) 108 (0, 0))).size = h.size + 1 := by simp
  refine ⟨_, reads_eql_nil undD, br_intro (fun e => by cases e) fun _ => ?_⟩
  generalize (h.push (Obj.cells (Array.mk [Value.pointer (some (Addr.mk d 0 none)), Value.string nm]) 108 (0, 0))) = H at kp pa z
  have dH := hd.keep kp
  refine dH.down.mono ?_
  rintro v h2 ⟨rfl, rfl⟩
  refine ⟨_, rfl, br_intro (fun e => by rw [hdn] at e; cases e) fun _ => ⟨fun _ _ G => G = h2, (draft_spec pa).mono ?_, ?_⟩⟩
  · rintro v h6 ⟨rfl, rfl⟩
    refine ⟨_, rfl, (dH.has _).mono ?_⟩
    rintro v h9 ⟨rfl, rfl⟩
    refine ⟨_, rfl, br_intro (fun e => ?_) fun _ => rfl⟩
    rw [has_none hdn, hT] at e; cases e
  · rintro a17 n18 G rfl
    refine (journal_spec pa).mono ?_
    rintro v h6 ⟨rfl, rfl⟩
    refine ⟨_, rfl, (dH.has _).mono ?_⟩
    rintro v h9 ⟨rfl, rfl⟩
    refine ⟨_, rfl, br_intro (fun e => ?_) fun _ => ⟨kp, z, rfl, pa⟩⟩
    rw [has_none hdn, hJ] at e; cases e
theorem open_nil : HC Tryz.prog 18 #[.pointer none, .string nm] h fun v h' => h' = h ∧ v = .tuple #[.pointer none, .int .i64 2] := by
  refine HC_of_vc (args := [.pointer none, .string nm]) (base := 38) (cuts := [10]) (bigs := []) hm Tryz.func18 ?_
  rw [vcOpen0]
  exact ⟨_, reads_eql_nil undD, br_intro (fun _ => ⟨rfl, rfl⟩) fun e => by cases e⟩
theorem pcount_nil : HC Tryz.prog 30 #[.pointer none] h fun v h' => h' = h ∧ v = .int .i64 0 := by
  refine HC_of_vc (args := [.pointer none]) (base := 14) (cuts := []) (bigs := []) hm Tryz.func30 ?_
  rw [vcPCount0]
  exact ⟨_, reads_eql_nil undPp, br_intro (fun _ => ⟨rfl, rfl⟩) fun e => by cases e⟩
theorem pread_nil (i : Int) : HC Tryz.prog 61 #[.pointer none, .int .i64 i] h fun v h' => h' = h ∧ v = .tuple #[.slice none 0 0, .int .i64 2] := by
  refine HC_of_vc (args := [.pointer none, .int .i64 i]) (base := 20) (cuts := []) (bigs := []) hm Tryz.func61 ?_
  rw [vcPRead0]
  exact ⟨_, reads_eql_nil undPp, br_intro (fun _ => ⟨rfl, rfl⟩) fun e => by cases e⟩
theorem commit_nil : HC Tryz.prog 27 #[.pointer none, .map none] h fun v h' => Turn h h' ∧ v = .int .i64 2 := by
  refine HC_of_vc (args := [.pointer none, .map none]) (base := 116) (cuts := [24, 25]) (bigs := []) hm Tryz.func27 ?_
  rw [vcCommit0]
  simp only [Array.size_push]
  have b0 := push2_0 h (Obj.cells (Array.mk [Value.pointer none]) 36 (0, 0)) (Obj.cells (Array.mk [Value.int .i64 0]) 34 (0, 0))
  have b1 := push2_1 h (Obj.cells (Array.mk [Value.pointer none]) 36 (0, 0)) (Obj.cells (Array.mk [Value.int .i64 0]) 34 (0, 0))
  have k0 : Keep h.size h ((h.push (Obj.cells (Array.mk [Value.pointer none]) 36 (0, 0))).push (Obj.cells (Array.mk [Value.int .i64 0]) 34 (0, 0))) := (keep_push h _).trans (Keep.push _ _ _ (by simp))
  generalize ((h.push (Obj.cells (Array.mk [Value.pointer none]) 36 (0, 0))).push (Obj.cells (Array.mk [Value.int .i64 0]) 34 (0, 0))) = H at b0 b1 k0
  refine ⟨none, reads_load scPp (cell_cells0 b0 rfl), _, reads_eql_nil undPp, br_intro (fun _ => ?_) fun e => by cases e⟩
  refine store0 szEr b1 rfl (one_int _ _) fun h' hb u g t => ⟨2, reads_var scEr (cell_cells0 (t.stay _ _ hb rfl) rfl), ?_, rfl⟩
  have tu : UpdM (fun _ => False) h g := (k0.m.trans' u.m fun q hq e => by omega).trans t.m
  exact tu.turn fun _ _ => id
/-- what a commit has done where no power goes. -/
structure Cm (x y : D) (nm : Str) (W : Pg.Rw) : Prop where
  seq : Pg.seqB (pgs x.now nm).length W = true
  q : Quiet y
  room : y.room = x.room
  other : ∀ n, n ≠ nm → mGet y.now n = mGet x.now n
  pages : pgs y.now nm = Pg.laidL W (pgs x.now nm)
  tot : tot y.now + (pgs x.now nm).length = tot x.now + (Pg.laidL W (pgs x.now nm)).length
  size : ∀ p ∈ W, p.2.size ≤ 512
theorem commit_waits (n : Str) (W : Pg.Rw) (x : D) : (Pg.commit n W x).2.waits.length ≤ x.waits.length + Pg.nparts (Pg.frameW W) + W.length := by
  have h1 := Pg.journal_waits n (Pg.frameW W) x
  have h2 := Pg.layW_waits n W (Pg.journal n (Pg.frameW W) x).2
  have h3 := Pg.lay1_waits n W (Pg.layW n W (Pg.journal n (Pg.frameW W) x).2).2
  have h4 := Pg.remove_waits (Pg.lay1 n W (Pg.layW n W (Pg.journal n (Pg.frameW W) x).2).2).2 (Pg.nmJ n)
  unfold Pg.commit
  split
  · dsimp only; omega
  · split
    · dsimp only; omega
    · split
      · dsimp only; omega
      · split
        · omega
        · unfold Pg.lay
          split
          · omega
          · split <;> omega
theorem nparts_le (hz : ∀ q ∈ W, q.1 < 9223372036854775808 ∧ q.2.size ≤ 512) (hl : W.length ≤ 1000000) : Pg.nparts (Pg.frameW W) ≤ 3 * W.length + 2 := by
  have h1 := rows_len W hz
  have h2 := uintB_len10 (n := 2 * W.length) (by omega)
  have h3 : (Pg.frameW W).length = (textB ⟨(Pg.record W).toArray⟩).length + 4 := frameB_len _
  have h4 := textB_len ⟨(Pg.record W).toArray⟩
  rw [mk_size, record_eq, List.length_append] at h4
  have h5 := uintB_len10 (n := (uintB (2 * W.length)).length + (W.flatMap rowB).length) (by omega)
  unfold Pg.nparts
  rw [record_eq] at h3
  omega
theorem wants_ok {c : Nat} {f : Int} (h : Pg.wants c f W = 0) : (∀ p ∈ W, p.2.size ≤ 512) ∧ Pg.seqB c W = true := by
  unfold Pg.wants at h
  split at h
  · cases h
  · rename_i h1
    split at h
    · cases h
    · rename_i h2
      exact ⟨fun p hp => Nat.le_of_not_lt fun h3 => h1 (List.any_eq_true.2 ⟨p, hp, by simp [h3]⟩), by simpa using h2⟩
theorem cm_of (ok : Ok x) (q : Quiet x) (hT : mGet x.now (Pg.nmT nm) = none) (hJ : mGet x.now (Pg.nmJ nm) = none) (hs : SrtI (W.map (·.1))) :
    (Pg.commit nm W x).1 = Pg.wants (pgs x.now nm).length (Dk.free x) W ∧ ((Pg.commit nm W x).1 ≠ 0 → (Pg.commit nm W x).2 = x) ∧ ((Pg.commit nm W x).1 = 0 → Cm x (Pg.commit nm W x).2 nm W) := by
  obtain ⟨h1, h2, h3⟩ := Pg.commit_nx ok.now q hT hJ hs
  refine ⟨h1, fun h => h2 (.inl h), fun h => ?_⟩
  obtain ⟨w1, w2⟩ := wants_ok (h1.symm.trans h)
  by_cases hW : W = []
  · rw [h2 (.inr hW)]
    subst hW
    exact ⟨rfl, q, rfl, fun _ _ => rfl, rfl, rfl, fun p hp => by cases hp⟩
  · obtain ⟨s, nx⟩ := h3 h hW
    refine ⟨s, nx.q, nx.room, fun n hn => by rw [nx.now, get_put ok.now, if_neg hn], ?_, ?_, w1⟩
    · rw [nx.now]; exact Pg.pgs_put ok.now _ _
    · rw [nx.now]; exact tot_put ok.now _ _
/-- a commit in a law. -/
theorem commit_law (hp : PagerAt h p d nm) (hNp : N p) (hd : DN N d x h) (hr : PgsAt N h r ml) (hW : Rows ml W) (q : Quiet x) (hT : mGet x.now (Pg.nmT nm) = none) (hJ : mGet x.now (Pg.nmJ nm) = none) (hml : ml.length ≤ 8) (hw : x.waits.length ≤ 100000000) :
    HC Tryz.prog 27 #[.pointer (some ⟨p, 0, none⟩), .map (some r)] h fun v h' => ∃ y, Stp N d y h h' ∧ v = .int .i64 (Pg.wants (pgs x.now nm).length (Dk.free x) W) ∧
      (Pg.wants (pgs x.now nm).length (Dk.free x) W ≠ 0 → y = x) ∧ (Pg.wants (pgs x.now nm).length (Dk.free x) W = 0 → Cm x y nm W) ∧ y.waits.length ≤ x.waits.length + 40 := by
  obtain ⟨c1, c2, c3⟩ := cm_of hd.ok q hT hJ hW.srt
  have hWl := hW.len
  refine (commit_spec hp hNp hd hr hW hw).mono ?_
  rintro v h' ⟨st, rfl⟩
  rw [c1] at c2 c3 ⊢
  refine ⟨_, st, rfl, c2, c3, ?_⟩
  by_cases h0 : Pg.wants (pgs x.now nm).length (Dk.free x) W = 0
  · have hz := (wants_ok h0).1
    have hcw := commit_waits nm W x
    have hk : ∀ q ∈ W, q.1 < 9223372036854775808 := fun q hq => by
      obtain ⟨v, _, _, hm⟩ := hW.get hr.nodup hq
      exact (hr.keys q.1 (List.mem_map_of_mem hm)).2
    have := nparts_le (W := W) (fun q hq => ⟨hk q hq, hz q hq⟩) (by omega)
    omega
  · rw [c2 h0]; omega
end
end Go.Proofs.YthkhaobmhheoaaaGreat
end

section
set_option linter.unusedVariables false
set_option linter.unusedSimpArgs false
set_option maxRecDepth 100000
namespace Go.Proofs.YthkhaobmhheoaaaGreat
open Go Go.Vc Go.Proofs Go.Dk Go.Cd
open Go.Pg (SrtI Quiet Nx)

def nf : Str := ⟨#[102]⟩
def ng : Str := ⟨#[103]⟩
def Wz : Pg.Rw := [(0, zp), (1, zp)]
theorem new_quiet (r : Int) : Quiet (Dk.new r) := ⟨rfl, rfl⟩
theorem uintB_len1 {n : Nat} (h : n < 128) : (uintB n).length = 1 := by rw [uintB_small h]; rfl
theorem uintB_len2 {n : Nat} (h : ¬ n < 128) (h2 : n < 16384) : (uintB n).length = 2 := by rw [uintB_big h, List.length_cons, uintB_len1 (by omega)]
theorem zp_size : zp.size = 512 := by show (Array.replicate 512 (0 : UInt8)).size = 512; simp
theorem bytesL_zp : bytesL zp = List.replicate 512 0 := by simp [bytesL, zp]
theorem wz_parts : Pg.nparts (Pg.frameW Wz) = 3 := by
  have h3 : (Pg.frameW Wz).length = (textB ⟨(Pg.record Wz).toArray⟩).length + 4 := frameB_len _
  have h4 := textB_len ⟨(Pg.record Wz).toArray⟩
  have hz := textB_len zp
  rw [zp_size, uintB_len2 (by decide) (by decide)] at hz
  have hr : (Pg.record Wz).length = 1031 := by
    unfold Pg.record Wz
    simp only [List.length_append, List.flatMap_cons, List.flatMap_nil, List.length_cons, List.length_nil, hz]
    rw [uintB_len1 (by decide), uintB_len1 (by decide), uintB_len1 (by decide)]
  rw [mk_size, hr, uintB_len2 (by decide) (by decide)] at h4
  unfold Pg.nparts
  omega
theorem wz_commit : (Pg.commit nf Wz (Dk.new 20)).1 = 0 ∧ (Pg.commit nf Wz (Dk.new 20)).2.acts = 9 ∧ Dk.count (Pg.commit nf Wz (Dk.new 20)).2 nf = 2 := by
  have hs : SrtI (Wz.map (·.1)) := by unfold Wz; decide
  obtain ⟨h1, _, h3⟩ := Pg.commit_nx (x := Dk.new 20) (n := nf) (W := Wz) (by simp [Dk.new, SrtF, mKeys]) (new_quiet 20) rfl rfl hs
  have hw : Pg.wants (pgs (Dk.new 20).now nf).length (Dk.free (Dk.new 20)) Wz = 0 := by
    have e1 : (pgs (Dk.new 20).now nf).length = 0 := rfl
    have e2 : Dk.free (Dk.new 20) = 20 := by decide
    rw [e1, e2]
    unfold Pg.wants
    have a1 : (Wz.any fun p => decide (512 < p.2.size)) = false := by
      unfold Wz; simp [zp_size]
    have a2 : Pg.seqB 0 Wz = true := by unfold Wz; rfl
    have a3 : Pg.newN 0 Wz = 2 := by unfold Wz; rfl
    rw [a1, a2, wz_parts, a3]
    rfl
  have h0 := h1.trans hw
  obtain ⟨_, nx⟩ := h3 h0 (by unfold Wz; simp)
  refine ⟨h0, ?_, ?_⟩
  · have := nx.acts 0 rfl (by rw [wz_parts]; decide)
    rw [this, wz_parts]; rfl
  · unfold Dk.count
    rw [nx.q.down, nx.now, Pg.pgs_put (by simp [Dk.new, SrtF, mKeys])]
    rfl
set_option maxHeartbeats 2000000 in
theorem pgalive_spec {h : Heap} : HC Tryz.prog 11 #[] h fun v h' => Keep h.size h h' ∧ v = .bool true := by
  refine hc_keep ?_
  refine HC_of_vc (args := []) (base := 33) (cuts := []) (bigs := []) hm Tryz.func11 ?_
  rw [vcPgAlive]
  refine (St.new (Keep.refl _ h) 20).mono ?_
  rintro v h1 ⟨d, rfl, st⟩
  have d1 := st.frame.dn
  have kb := st.frame.base
  refine ⟨_, rfl, (open_quiet (nm := nf) d1 (by decide) rfl rfl rfl).mono ?_⟩
  rintro v h4 ⟨k4, z4, rfl, p4⟩
  refine ⟨_, _, rfl, svc_noughts (n := 512) (by omega) fun h8 k8 z8 sl8 => ⟨_, _, _, rfl, br_intro (fun _ => ?_) fun e => by simp at e⟩⟩
  generalize hh9 : Array.push h8 (Obj.map (Array.mk []) 0) = h9
  have m9 : MapAt Mi h9 h8.size [] := by rw [← hh9]; exact MapAt.new Mi h8
  have k9 : Keep h8.size h8 h9 := by rw [← hh9]; exact keep_push h8 _
  have z9 : h9.size = h8.size + 1 := by rw [← hh9]; simp
  refine svc_mapUpdate (M := Mi) (k := 0) (v := ⟨some ⟨h4.size, 0, none⟩, 512, 512, zp⟩) m9 fun h13 z13 u13 m13 => ?_
  refine svc_mapUpdate (M := Mi) (k := 1) (v := ⟨some ⟨h4.size, 0, none⟩, 512, 512, zp⟩) m13 fun h15 z15 u15 m15 => ?_
  have k815 : Keep h8.size h8 h15 := (k9.trans (u13.keep (by omega) fun i e => by omega)).trans (u15.keep (by omega) fun i e => by omega)
  have k115 : Keep h1.size h1 h15 := (k4.trans (k8.mono k4.size)).trans (k815.mono (k4.trans (k8.mono k4.size)).size)
  have d15 := d1.wide k115
  have p15 := (p4.keep k8).keep k815
  have z1 := kb.size
  have z8' := k815.size
  have sl15 : Sl ByteE h15 (some ⟨h4.size, 0, none⟩) 512 (bytesL zp) := by rw [bytesL_zp]; exact sl8.keep k815
  have bk : ∀ q, blk (some (⟨h4.size, 0, none⟩ : Addr)) q → q = h4.size := fun q ⟨p0, e, hp⟩ => by cases e; exact hp.symm
  have pg : PgsAt (Nw (fun q => q < h.size ∨ False) h1 h15) h15 h8.size [(0, ⟨some ⟨h4.size, 0, none⟩, 512, 512, zp⟩), (1, ⟨some ⟨h4.size, 0, none⟩, 512, 512, zp⟩)] :=
    ⟨m15, .inr ⟨by omega, by omega⟩, fun q hq => by
      have e : q.2 = ⟨some ⟨h4.size, 0, none⟩, 512, 512, zp⟩ := by
        simp only [List.mem_cons, List.not_mem_nil, or_false] at hq
        rcases hq with rfl | rfl <;> rfl
      rw [e]
      exact ⟨sl15, Nat.le_refl _, fun _ q hq => by rw [bk q hq]; exact .inr ⟨by omega, by omega⟩⟩, fun k hk => by
      simp only [mKeys, List.map_cons, List.map_nil, List.mem_cons, List.not_mem_nil, or_false] at hk
      rcases hk with rfl | rfl <;> (constructor <;> decide), by show (2 : Nat) ≤ _; omega⟩
  obtain ⟨w1, w2, w3⟩ := wz_commit
  refine (commit_spec (W := Wz) p15 (.inr ⟨by omega, by omega⟩) d15 pg ⟨List.Perm.refl _, by unfold Wz; decide⟩ (by show (0 : Nat) ≤ _; omega)).mono ?_
  rintro v h17 ⟨st17, rfl⟩
  rw [w1]
  have p17 := p15.updM st17.up fun hn => hn (.inr ⟨by omega, by omega⟩)
  refine ⟨_, rfl, br_intro (fun _ => ?_) fun e => by simp at e⟩
  refine (pcount_spec p17 st17.dn).mono ?_
  rintro v h20 ⟨rfl, rfl⟩
  rw [w3]
  refine ⟨_, rfl, br_intro (fun _ => ?_) fun e => by simp at e⟩
  refine (st17.dn.acts).mono ?_
  rintro v h23 ⟨rfl, rfl⟩
  rw [w2]
  refine ⟨_, rfl, ?_, rfl⟩
  have t1 : UpdM (fun _ => False) h h15 := (kb.trans (k115.mono kb.size)).m
  exact (t1.trans' st17.up fun q hq hn => hn (.inl (.inl hq))).turn fun _ _ => id

/- ------------------------------------------------------------------ steps that came in -/
theorem fldP {H : Type} {enc : TypeId × Value → H} {P : Program} {w : World} {base : Nat} {spare : Nat → Bool} {held : Bool} {n : Nat} {cs : List Value} {fs : Array Field} {xs : List (DataW H × List MemPlace)}
    (h : ∀ (i : Nat) (f : Field), fs[i]? = some f → DataW.trod enc P w base spare held n f.type ((cs.drop f.offset).take (P.cellsOf f.type)) = xs[i]?) (hl : xs.length = fs.size) (i : Nat) {f : Field} {t : TypeId} {o : Nat}
    (hf : fs[i]? = some f) (ht : f.type = t) (ho : f.offset = o) (hc : P.cellsOf f.type = 1) : ∃ x, DataW.trod enc P w base spare held n t ((cs.drop o).take 1) = some x := by
  have hi : i < xs.length := by rw [hl]; exact (Array.getElem?_eq_some_iff.1 hf).1
  have := h i f hf
  rw [ht, ho, ← ht, hc, ht, List.getElem?_eq_getElem hi] at this
  exact ⟨_, this⟩
theorem undPage : Tryz.prog.underlying 27 = some (.struct #[(Tryz.prog.fieldsOf 27)[0]!, (Tryz.prog.fieldsOf 27)[1]!]) := by kernel_rfl
theorem undStep : Tryz.prog.underlying 47 = some (.struct #[(Tryz.prog.fieldsOf 47)[0]!, (Tryz.prog.fieldsOf 47)[1]!, (Tryz.prog.fieldsOf 47)[2]!]) := by kernel_rfl
theorem decPage : DecW PageE Tryz.prog 27 fun w q => -9223372036854775808 ≤ q.1 ∧ q.1 ≤ 9223372036854775807 := fun {H enc w base spare held n cs d} h => by
  obtain ⟨xs, m, _, _, hl, hx, hf⟩ := DataW.trod_struct undPage h
  obtain ⟨_, f0⟩ := fldP (t := 3) (o := 0) hf hx 0 rfl (by kernel_rfl) (by kernel_rfl) (by kernel_rfl)
  obtain ⟨_, f1⟩ := fldP (t := 9) (o := 1) hf hx 1 rfl (by kernel_rfl) (by kernel_rfl) (by kernel_rfl)
  have hl2 : cs.length = 2 := hl.trans (by kernel_rfl)
  match cs, hl2 with
  | [a, b], _ =>
    obtain ⟨s0, e0, g0⟩ := decInt undI f0
    obtain ⟨s1, e1, g1⟩ := decStr undS f1
    simp [IntE, StrE] at e0 e1
    subst e0 e1
    exact ⟨(s0, s1), rfl, i64_rng g0⟩
theorem undPgs : Tryz.prog.underlying 23 = some (.slice 27) := by kernel_rfl
theorem decStep : DecW StepE Tryz.prog 47 fun w s => SpOk w.heap s ∧ s.n ≤ 9223372036854775807 := fun {H enc w base spare held n cs d} h => by
  obtain ⟨xs, m, _, _, hl, hx, hf⟩ := DataW.trod_struct undStep h
  obtain ⟨_, f0⟩ := fldP (t := 23) (o := 0) hf hx 0 rfl (by kernel_rfl) (by kernel_rfl) (by kernel_rfl)
  obtain ⟨_, f1⟩ := fldP (t := 3) (o := 1) hf hx 1 rfl (by kernel_rfl) (by kernel_rfl) (by kernel_rfl)
  obtain ⟨_, f2⟩ := fldP (t := 45) (o := 2) hf hx 2 rfl (by kernel_rfl) (by kernel_rfl) (by kernel_rfl)
  have hl2 : cs.length = 3 := hl.trans (by kernel_rfl)
  match cs, hl2 with
  | [a, b, c], _ =>
    obtain ⟨s0, e0, g0⟩ := decSlice undPgs (by kernel_rfl) decPage f0
    obtain ⟨s1, e1, g1⟩ := decInt undI f1
    obtain ⟨s2, e2, g2⟩ := decInt (by kernel_rfl : Tryz.prog.underlying 45 = some (.int .u64)) f2
    simp [IntE, SliceE] at e0 e1 e2
    subst e0 e1 e2
    obtain ⟨ps, h1, h2, h3, h4⟩ := g0
    exact ⟨⟨s0.1, s0.2.1, s0.2.2, s1, s2, ps⟩, rfl, ⟨(i64_rng g1).2, u64_rng g2, h1, h4⟩, h3⟩
end Go.Proofs.YthkhaobmhheoaaaGreat
end

section
set_option linter.unusedVariables false
set_option linter.unusedSimpArgs false
set_option maxRecDepth 100000
namespace Go.Proofs.YthkhaobmhheoaaaGreat
open Go Go.Vc Go.Proofs Go.Dk Go.Cd
open Go.Pg (SrtI Quiet Nx)

/-- a row of texts in blocks of N. -/
structure RowN (N : Nat → Prop) (h : Heap) (a : Option Addr) (k : Nat) (l : List Str) : Prop where
  sl : Sl StrE h a k l
  n : k ≠ 0 → ∀ q, blk a q → N q
theorem RowN.nil (N : Nat → Prop) (h : Heap) (a : Option Addr) : RowN N h a 0 [] := ⟨Sl.nil _ _, fun h => absurd rfl h⟩
section
variable {h h' : Heap} {N N' S : Nat → Prop} {a : Option Addr} {k : Nat} {l : List Str}
theorem RowN.updM (hr : RowN N h a k l) (u : UpdM S h h') (hs : ∀ q, N q → ¬ S q) : RowN N h' a k l := ⟨hr.sl.updM u fun hn q hq => hs q (hr.n hn q hq), hr.n⟩
theorem RowN.keep (hr : RowN N h a k l) (kk : Keep h.size h h') : RowN N h' a k l := hr.updM (S := fun _ => False) kk.m fun _ _ => id
theorem RowN.mono (hr : RowN N h a k l) (hs : ∀ q, N q → N' q) : RowN N' h a k l := ⟨hr.sl, fun hn q hq => hs q (hr.n hn q hq)⟩
theorem RowN.stp {d : Nat} {x' : D} (hr : RowN N h a k l) (st : Stp N d x' h h') : RowN N h' a k l := hr.updM st.up fun q hq hn => hn hq
end
theorem turn_stp {h0 h h' : Heap} {N : Nat → Prop} {d : Nat} {x' : D} (t : Turn h0 h) (hN : ∀ q, q < h0.size → N q) (st : Stp N d x' h h') : Turn h0 h' :=
  ((t.m (S := fun _ => False)).trans' st.up fun q hq hn => hn (hN q hq)).turn fun _ _ => id
theorem turn_keep {h0 h h' : Heap} (t : Turn h0 h) (k : Keep h.size h h') : Turn h0 h' := ((t.m (S := fun _ => False)).trans k.m).turn fun _ _ => id
theorem pgs_le {x : D} (ok : Ok x) (n : Str) : (pgs x.now n).length ≤ 4096 := by
  have h1 := tot_del ok.now n
  have h2 := ok.tot
  have h3 := ok.room
  omega
theorem free_rng {x : D} (ok : Ok x) : -100000 ≤ Dk.free x ∧ Dk.free x ≤ 100000 := by
  have h2 := ok.tot
  have h3 := ok.room
  unfold Dk.free; omega
end Go.Proofs.YthkhaobmhheoaaaGreat
end
