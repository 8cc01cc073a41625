/-
  What a cache keeps in mind. Conditions: none.
-/
import Derived.Test.YtcihjdalokaokaaGreatDoorKvR
set_option linter.unusedVariables false
set_option linter.unusedSimpArgs false
set_option maxRecDepth 100000
namespace Go.Proofs.YtcihjdalokaokaaGreatDoor
open Go Go.Vc Go.Proofs Go.Dk Go.Kv

noncomputable def Me := strMk Tryz.prog 152 9 153 Nat (fun b => Value.pointer (some ⟨b, 0, none⟩)) (by kernel_rfl) (by kernel_rfl)
theorem kMe : scT Tryz.prog 152 = true := by kernel_rfl
theorem kSp : scT Tryz.prog 55 = true := by kernel_rfl
theorem uEp : Tryz.prog.underlying 153 = some (.pointer (Tryz.prog.pointee 153)) := by kernel_rfl
theorem uCp : Tryz.prog.underlying 58 = some (.pointer (Tryz.prog.pointee 58)) := by kernel_rfl
theorem mput_len {κ ν : Type} [DecidableEq κ] : ∀ (m : List (κ × ν)) (k : κ) (v : ν), mGet m k = none → (mPut m k v).length = m.length + 1
  | [], k, v, _ => rfl
  | p :: m, k, v, h => by
    unfold mGet at h
    split at h
    · cases h
    · rename_i hp
      unfold mPut
      rw [if_neg hp, List.length_cons, mput_len m k v h, List.length_cons]
theorem mdel_len {κ ν : Type} [DecidableEq κ] : ∀ (m : List (κ × ν)) (k : κ) (v : ν), mGet m k = some v → (mDel m k).length + 1 = m.length
  | [], k, v, h => by cases h
  | p :: m, k, v, h => by
    unfold mGet at h
    unfold mDel
    split at h
    · rename_i hp; rw [if_pos hp]; rfl
    · rename_i hp; rw [if_neg hp, List.length_cons, List.length_cons, mdel_len m k v h]
/-- a cache's ring and map. -/
structure Raw (h : Heap) (c : Nat) (d : Cd) (L : List (Nat × En)) (ml : List (Str × Nat)) : Prop where
  ring : Ring h c d L
  map : MapAt Me h d.r ml
  get : ∀ k b, mGet ml k = some b ↔ ∃ e, (b, e) ∈ L ∧ e.key = k
  len : ml.length = L.length
  kn : (L.map fun p => p.2.key).Nodup
  rc : d.r ≠ c
  rl : d.r ∉ L.map (·.1)
section
variable {h h' : Heap} {c : Nat} {d : Cd} {L : List (Nat × En)} {ml : List (Str × Nat)} {S : Nat → Prop}
theorem Shp.updM (hs : Shp h c d L) (u : UpdM S h h') (hc : ¬ S c) (hL : ∀ p ∈ L, ¬ S p.1) : Shp h' c d L := by
  refine ⟨?_, fun p hp => ?_, hs.cl, hs.nd⟩
  · obtain ⟨pn, pe, hb⟩ := hs.ca; exact ⟨pn, pe, u.cells hb hc⟩
  · obtain ⟨pn, pe, hb⟩ := hs.en p hp; exact ⟨pn, pe, u.cells hb (hL p hp)⟩
theorem Ring.updM (hr : Ring h c d L) (u : UpdM S h h') (hc : ¬ S c) (hL : ∀ p ∈ L, ¬ S p.1) : Ring h' c d L := by
  refine ⟨hr.shp.updM u hc hL, ?_⟩
  have hx : ∀ x, At_ c L x → nwf c h' x = nwf c h x ∧ elf c h' x = elf c h x := fun x hx => by
    obtain ⟨cs, T, hb, _, _⟩ := hr.shp.obj hx
    have hs : ¬ S x.block := by
      rcases hx with rfl | ⟨p, hp, rfl⟩
      · exact hc
      · exact hL p hp
    have hb' := u.cells hb hs
    have e : ∀ i, cell h' (x.add i) = cell h (x.add i) := fun i => cell_congr (by rw [Addr.add_block, hb', hb])
    unfold nwf elf
    rw [e, e]; exact ⟨rfl, rfl⟩
  have hmem : ∀ x ∈ L.map (fun p => ad p.1), At_ c L x := fun x hm => by
    obtain ⟨p, hp, e⟩ := List.mem_map.1 hm
    exact .inr ⟨p, hp, e.symm⟩
  refine Ch.congr _ hr.ch (fun x hm => ?_) (fun x hm => (hx x (hmem x hm)).2) (hx _ (.inl rfl)).2
  rcases List.mem_cons.1 hm with rfl | hm
  · exact (hx _ (.inl rfl)).1
  · exact (hx x (hmem x hm)).1
theorem Raw.updM (hr : Raw h c d L ml) (u : UpdM S h h') (hc : ¬ S c) (hrr : ¬ S d.r) (hL : ∀ p ∈ L, ¬ S p.1) : Raw h' c d L ml :=
  ⟨hr.ring.updM u hc hL, hr.map.updM u hrr, hr.get, hr.len, hr.kn, hr.rc, hr.rl⟩
theorem Shp.lt (hs : Shp h c d L) : c < h.size ∧ ∀ p ∈ L, p.1 < h.size := by
  refine ⟨?_, fun p hp => ?_⟩
  · obtain ⟨pn, pe, hb⟩ := hs.ca; exact at_lt hb
  · obtain ⟨pn, pe, hb⟩ := hs.en p hp; exact at_lt hb
theorem Raw.rm (hr : Raw h c d L ml) : Reads Tryz.prog (Instr.loadAt 152 (.pointer (some ((⟨c, 0, none⟩ : Addr).add 2)))) h (.map (some d.r)) := by
  obtain ⟨pn, pe, hb⟩ := hr.ring.shp.ca
  exact reads_load kMe (cell_cells hb rfl)
theorem Raw.rmost (hr : Raw h c d L ml) : Reads Tryz.prog (Instr.loadAt 3 (.pointer (some ((⟨c, 0, none⟩ : Addr).add 1)))) h (.int .i64 d.most) := by
  obtain ⟨pn, pe, hb⟩ := hr.ring.shp.ca
  exact reads_load kI (cell_cells hb rfl)
theorem Raw.rhits (hr : Raw h c d L ml) : Reads Tryz.prog (Instr.loadAt 3 (.pointer (some ((⟨c, 0, none⟩ : Addr).add 8)))) h (.int .i64 d.hits) := by
  obtain ⟨pn, pe, hb⟩ := hr.ring.shp.ca
  exact reads_load kI (cell_cells hb rfl)
theorem Raw.rs (hr : Raw h c d L ml) : Reads Tryz.prog (Instr.loadAt 55 (.pointer (some ⟨c, 0, none⟩))) h (.pointer (some ⟨d.s, 0, none⟩)) := by
  obtain ⟨pn, pe, hb⟩ := hr.ring.shp.ca
  exact reads_load kSp (cell_cells0 hb rfl)
theorem Raw.look (hr : Raw h c d L ml) (k : Str) : Reads Tryz.prog (Instr.lookup 152 (.map (some d.r)) (.string k) false) h (.pointer ((mGet ml k).map fun b => ⟨b, 0, none⟩)) := by
  have rd := (reads_lookup (M := Me) (k := k) (z := .pointer none) hr.map (by kernel_rfl)).1
  cases hg : mGet ml k with
  | none => rw [hg] at rd; exact rd
  | some b => rw [hg] at rd; exact rd
theorem Raw.miss (hr : Raw h c d L ml) {k : Str} (hg : mGet ml k = .none) : efind k (L.map (·.2)) = .none := by
  unfold efind
  rw [List.find?_eq_none]
  intro e he hk
  obtain ⟨p, hp, rfl⟩ := List.mem_map.1 he
  have := (hr.get k p.1).2 ⟨p.2, hp, of_decide_eq_true hk⟩
  rw [hg] at this; cases this
theorem Raw.hit (hr : Raw h c d L ml) {k : Str} {b : Nat} (hg : mGet ml k = .some b) : ∃ X Y e, L = X ++ (b, e) :: Y ∧ e.key = k ∧ efind k (L.map (·.2)) = .some e ∧ ecut k (L.map (·.2)) = (X ++ Y).map (·.2) := by
  obtain ⟨e, hm, hk⟩ := (hr.get k b).1 hg
  obtain ⟨X, Y, rfl⟩ := List.append_of_mem hm
  have kn := hr.kn
  rw [List.map_append, List.map_cons] at kn
  obtain ⟨n1, n2, n3⟩ := List.nodup_append.1 kn
  have hX : ∀ p ∈ X, p.2.key ≠ k := fun p hp h => n3 _ (List.mem_map_of_mem (f := fun p : Nat × En => p.2.key) hp) _ List.mem_cons_self (h.trans hk.symm)
  have hY : ∀ p ∈ Y, p.2.key ≠ k := fun p hp h => (List.nodup_cons.1 n2).1 (by
    have : e.key = p.2.key := hk.trans h.symm
    rw [this]; exact List.mem_map_of_mem (f := fun p : Nat × En => p.2.key) hp)
  refine ⟨X, Y, e, rfl, hk, ?_, ?_⟩
  · unfold efind
    rw [List.map_append, List.map_cons, List.find?_append]
    have : (X.map (·.2)).find? (fun e => decide (e.key = k)) = .none := by
      rw [List.find?_eq_none]
      intro x hx hd
      obtain ⟨p, hp, rfl⟩ := List.mem_map.1 hx
      exact hX p hp (of_decide_eq_true hd)
    rw [this]
    simp [hk]
  · unfold ecut
    rw [List.map_append, List.map_cons, List.filter_append, List.filter_cons]
    simp only [hk, ne_eq, not_true_eq_false, decide_false, Bool.false_eq_true, if_false]
    rw [List.map_append]
    congr 1
    · refine List.filter_eq_self.2 fun x hx => ?_
      obtain ⟨p, hp, rfl⟩ := List.mem_map.1 hx
      exact decide_eq_true (hX p hp)
    · refine List.filter_eq_self.2 fun x hx => ?_
      obtain ⟨p, hp, rfl⟩ := List.mem_map.1 hx
      exact decide_eq_true (hY p hp)
/-- an entry's value is written. -/
theorem svc_ent_val {b : Nat} {e : En} {v : Str} {pn pe : Option Addr} {K : Unit → Heap → Prop} (hb : h[b]? = .some (entBox e pn pe)) (k : ∀ h', h'.size = h.size → h'[b]? = .some (entBox { e with val := v } pn pe) → Upd (fun q => q = b) h h' → K () h') :
    SVC Tryz.prog (Instr.storeAt 9 (.pointer (.some ((⟨b, 0, .none⟩ : Addr).add 1))) (.string v)) h K :=
  svc_store_box (k := 1) zS hb (by simp) rfl (one_string _) fun h' z' b' u' => k h' z' (by rw [b']; rfl) u'
theorem svc_ent_is {b : Nat} {e : En} {v : Bool} {pn pe : Option Addr} {K : Unit → Heap → Prop} (hb : h[b]? = .some (entBox e pn pe)) (k : ∀ h', h'.size = h.size → h'[b]? = .some (entBox { e with is := v } pn pe) → Upd (fun q => q = b) h h' → K () h') :
    SVC Tryz.prog (Instr.storeAt 4 (.pointer (.some ((⟨b, 0, .none⟩ : Addr).add 2))) (.bool v)) h K :=
  svc_store_box (k := 2) zB hb (by simp) rfl (one_bool _) fun h' z' b' u' => k h' z' (by rw [b']; rfl) u'
/-- an entry that lies beside the ring goes in at the end. -/
theorem Shp.snoc (hr : Ring h c d L) {b : Nat} {e : En} {pn pe : Option Addr} (hb : h[b]? = .some (entBox e pn pe)) (hc : b ≠ c) (hL : b ∉ L.map (·.1)) : Shp h c d (L ++ [(b, e)]) := by
  have hs := hr.shp
  refine ⟨hs.ca, fun p hp => ?_, fun hm => ?_, ?_⟩
  · rcases List.mem_append.1 hp with hp | hp
    · exact hs.en p hp
    · obtain rfl := List.mem_singleton.1 hp; exact ⟨pn, pe, hb⟩
  · rw [List.map_append] at hm
    rcases List.mem_append.1 hm with hm | hm
    · exact hs.cl hm
    · exact hc (List.mem_singleton.1 hm).symm
  · rw [List.map_append]
    exact List.nodup_append.2 ⟨hs.nd, by simp, fun x hx y hy e2 => hL (by have hy2 : y = b := List.mem_singleton.1 hy; rw [← hy2, ← e2]; exact hx)⟩
/-- one that is known is used again: it goes to the end, with what is so now. -/
theorem reput_spec {X Y : List (Nat × En)} {b : Nat} {e : En} {v : Str} {is : Bool} {K : Heap → Prop} (hr : Raw h c d (X ++ (b, e) :: Y) ml) {h2 : Heap} (hr2 : Ring h2 c d (X ++ Y)) (hb2 : ∃ pn pe, h2[b]? = .some (entBox ⟨e.key, v, is⟩ pn pe)) (hm2 : MapAt Me h2 d.r ml)
    (u2 : Upd (fun q => q = c ∨ q ∈ (X ++ (b, e) :: Y).map (·.1)) h h2)
    (k : ∀ h', Raw h' c d (X ++ Y ++ [(b, ⟨e.key, v, is⟩)]) ml → Upd (fun q => q = c ∨ q ∈ (X ++ (b, e) :: Y).map (·.1)) h h' → K h') :
    HC Tryz.prog 83 #[.pointer (.some ⟨c, 0, .none⟩), .pointer (.some ⟨b, 0, .none⟩)] h2 fun w h' => w = .tuple #[] ∧ K h' := by
  obtain ⟨pn, pe, hb⟩ := hb2
  have hs := hr.ring.shp
  have hbc : b ≠ c := hs.ne (p := (b, e)) (by simp)
  have hnd := hs.nd
  rw [List.map_append, List.map_cons] at hnd
  have hbL : b ∉ (X ++ Y).map (·.1) := fun hm => by
    rw [List.map_append] at hm
    obtain ⟨n1, n2, n3⟩ := List.nodup_append.1 hnd
    rcases List.mem_append.1 hm with hm | hm
    · exact n3 _ hm _ List.mem_cons_self rfl
    · exact (List.nodup_cons.1 n2).1 hm
  refine (in_spec hr2 (Shp.snoc hr2 (e := ⟨e.key, v, is⟩) hb hbc hbL)).mono ?_
  rintro w h' ⟨rfl, r', u'⟩
  have hperm : ∀ {α : Type} (x : α) (A B : List α), (A ++ B ++ [x]).Perm (A ++ x :: B) := fun x A B => by
    rw [List.append_assoc]; exact List.Perm.append_left A (List.perm_append_singleton x B)
  have hsub : ∀ q, (q = c ∨ q ∈ (X ++ Y ++ [(b, (⟨e.key, v, is⟩ : En))]).map (·.1)) → (q = c ∨ q ∈ (X ++ (b, e) :: Y).map (·.1)) := fun q hq => hq.imp id fun hq => by
    simp only [List.map_append, List.map_cons, List.map_nil, List.mem_append, List.mem_cons, List.not_mem_nil, or_false] at hq ⊢
    rcases hq with (hq | hq) | hq
    · exact .inl hq
    · exact .inr (.inr hq)
    · exact .inr (.inl hq)
  refine ⟨rfl, k h' ⟨r', hm2.upd u' fun hq => ?_, fun k' b' => ?_, ?_, ?_, hr.rc, fun hm => ?_⟩ (u2.trans (u'.mono hsub))⟩
  · rcases hsub _ hq with hq | hq
    · exact hr.rc hq
    · exact hr.rl hq
  · rw [hr.get]
    constructor
    · rintro ⟨e1, hm, hk⟩
      simp only [List.mem_append, List.mem_cons, List.not_mem_nil, or_false] at hm ⊢
      rcases hm with hm | hm | hm
      · exact ⟨e1, .inl (.inl hm), hk⟩
      · cases hm; exact ⟨_, .inr rfl, hk⟩
      · exact ⟨e1, .inl (.inr hm), hk⟩
    · rintro ⟨e1, hm, hk⟩
      simp only [List.mem_append, List.mem_cons, List.not_mem_nil, or_false] at hm ⊢
      rcases hm with (hm | hm) | hm
      · exact ⟨e1, .inl hm, hk⟩
      · exact ⟨e1, .inr (.inr hm), hk⟩
      · cases hm; exact ⟨e, .inr (.inl rfl), hk⟩
  · rw [hr.len]; simp only [List.length_append, List.length_cons, List.length_nil]; omega
  · have e1 : (X ++ Y ++ [(b, (⟨e.key, v, is⟩ : En))]).map (fun p => p.2.key) = (X.map fun p => p.2.key) ++ (Y.map fun p => p.2.key) ++ [e.key] := by simp
    have e2 : (X ++ (b, e) :: Y).map (fun p => p.2.key) = (X.map fun p => p.2.key) ++ e.key :: (Y.map fun p => p.2.key) := by simp
    have kn := hr.kn
    rw [e2] at kn
    rw [e1]
    exact (hperm e.key _ _).nodup_iff.2 kn
  · have := hsub d.r (.inr hm)
    rcases this with h1 | h1
    · exact hr.rc h1
    · exact hr.rl h1
end
end Go.Proofs.YtcihjdalokaokaaGreatDoor
