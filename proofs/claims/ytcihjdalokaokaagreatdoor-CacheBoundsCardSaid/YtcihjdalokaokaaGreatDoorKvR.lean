/-
  The ring of a cache's entries on a heap: one taken out, one put in. Conditions: none.
-/
import Derived.Test.YtcihjdalokaokaaGreatDoorKvM
import Derived.Test.YtcihjdalokaokaaGreatDoorCa1
set_option linter.unusedVariables false
set_option linter.unusedSimpArgs false
set_option maxRecDepth 100000
namespace Go.Proofs.YtcihjdalokaokaaGreatDoor
open Go Go.Vc Go.Proofs Go.Dk Go.Kv

theorem kEp : scT Tryz.prog 153 = true := by kernel_rfl
theorem zEp : szOf Tryz.prog 153 = some 1 := by kernel_rfl
abbrev entBox (e : En) (pn pe : Option Addr) : Obj := .cells #[.string e.key, .string e.val, .bool e.is, .pointer pn, .pointer pe] 155 (0, 0)
/-- what stands in a cache's own box. -/
structure Cd where
  s : Nat
  most : Nat
  r : Nat
  hits : Int
abbrev caBox (d : Cd) (pn pe : Option Addr) : Obj := .cells #[.pointer (some ⟨d.s, 0, none⟩), .int .i64 d.most, .map (some d.r), .string ⟨#[]⟩, .string ⟨#[]⟩, .bool false, .pointer pn, .pointer pe, .int .i64 d.hits] 157 (0, 0)
abbrev endA (c : Nat) : Addr := ⟨c, 3, none⟩
abbrev ad (b : Nat) : Addr := ⟨b, 0, none⟩
/-- is it a place in the ring? -/
def nodeB (c : Nat) (x : Addr) : Bool := x.spot.isNone && (if x.block = c then decide (x.off = 3) else decide (x.off = 0))
theorem node_inj {c : Nat} {x y : Addr} (hx : nodeB c x = true) (hy : nodeB c y = true) (e : x.block = y.block) : x = y := by
  obtain ⟨a, b, s⟩ := x
  obtain ⟨a', b', s'⟩ := y
  simp only [nodeB, Bool.and_eq_true, Option.isNone_iff_eq_none] at hx hy
  dsimp only at e
  subst e
  obtain ⟨rfl, h1⟩ := hx
  obtain ⟨rfl, h2⟩ := hy
  split at h1 <;> rename_i hc
  · rw [if_pos hc] at h2; rw [of_decide_eq_true h1, of_decide_eq_true h2]
  · rw [if_neg hc] at h2; rw [of_decide_eq_true h1, of_decide_eq_true h2]
def nwf (c : Nat) (h : Heap) (x : Addr) : Option Value := if nodeB c x then cell h (x.add 3) else none
def elf (c : Nat) (h : Heap) (x : Addr) : Option Value := if nodeB c x then cell h (x.add 4) else none
/-- a cache's box and its entries' boxes. -/
structure Shp (h : Heap) (c : Nat) (d : Cd) (L : List (Nat × En)) : Prop where
  ca : ∃ pn pe, h[c]? = some (caBox d pn pe)
  en : ∀ p ∈ L, ∃ pn pe, h[p.1]? = some (entBox p.2 pn pe)
  cl : c ∉ L.map (·.1)
  nd : (L.map (·.1)).Nodup
/-- a place of the ring. -/
def At_ (c : Nat) (L : List (Nat × En)) (a : Addr) : Prop := a = endA c ∨ ∃ p ∈ L, a = ad p.1
section
variable {h : Heap} {c : Nat} {d : Cd} {L : List (Nat × En)} {a : Addr}
theorem node_end (c : Nat) : nodeB c (endA c) = true := by simp [nodeB]
theorem node_ad {b : Nat} (hb : b ≠ c) : nodeB c (ad b) = true := by simp [nodeB, hb]
theorem Shp.ne (hs : Shp h c d L) {p : Nat × En} (hp : p ∈ L) : p.1 ≠ c := fun e => hs.cl (e ▸ List.mem_map_of_mem hp)
theorem Shp.node (hs : Shp h c d L) (ha : At_ c L a) : nodeB c a = true := by
  rcases ha with rfl | ⟨p, hp, rfl⟩
  · exact node_end c
  · exact node_ad (hs.ne hp)
theorem Shp.obj (hs : Shp h c d L) (ha : At_ c L a) : ∃ cs T, h[a.block]? = some (.cells cs T (0, 0)) ∧ a.off + 4 < cs.size ∧ a.spot = none := by
  rcases ha with rfl | ⟨p, hp, rfl⟩
  · obtain ⟨pn, pe, hb⟩ := hs.ca; exact ⟨_, _, hb, by simp, rfl⟩
  · obtain ⟨pn, pe, hb⟩ := hs.en p hp; exact ⟨_, _, hb, by simp, rfl⟩
/-- a pointer of a place's is written: only it turns. -/
theorem Shp.store (hs : Shp h c d L) (ha : At_ c L a) {i : Nat} (hi : i = 3 ∨ i = 4) {v : Option Addr} {K : Unit → Heap → Prop}
    (k : ∀ h', Shp h' c d L → (∀ x, nwf c h' x = if x = a ∧ i = 3 then some (.pointer v) else nwf c h x) → (∀ x, elf c h' x = if x = a ∧ i = 4 then some (.pointer v) else elf c h x) → Upd (fun q => q = a.block) h h' → K () h') :
    SVC Tryz.prog (Instr.storeAt 153 (.pointer (some (a.add i))) (.pointer v)) h K := by
  obtain ⟨cs, T, hb, hlt, hsp⟩ := hs.obj ha
  have hna := hs.node ha
  obtain ⟨ab, ao, sp⟩ := a
  dsimp only at hb hlt hsp
  subst hsp
  rw [Addr.add_row]
  refine svc_store_cell zEp hb (by omega) rfl (one_pointer _) fun h' z' b' o' => ?_
  have uu : Upd (fun q => q = ab) h h' := upd_of_one z' o'
  have hcell : ∀ (x : Addr) (j : Nat), nodeB c x = true → (j = 3 ∨ j = 4) → cell h' (x.add j) = if x = ⟨ab, ao, none⟩ ∧ i = j then some (.pointer v) else cell h (x.add j) := fun x j hx hj => by
    by_cases hxa : x = ⟨ab, ao, none⟩
    · subst hxa
      rw [Addr.add_row, cell_at b', cell_at hb]
      by_cases hij : i = j
      · subst hij
        rw [if_pos ⟨rfl, rfl⟩]
        have hlt2 : ao + i < cs.toList.length := by rw [Array.length_toList]; omega
        show (cs.toList.set (ao + i) (Value.pointer v)).toArray[ao + i]? = _
        rw [← Array.getElem?_toList, List.getElem?_set, if_pos rfl, if_pos hlt2]
      · rw [if_neg fun h => hij h.2]
        rw [← Array.getElem?_toList, List.getElem?_set, if_neg (by omega), Array.getElem?_toList]
    · rw [if_neg fun h => hxa h.1]
      have hbk : x.block ≠ ab := fun e => hxa (node_inj hx hna e)
      refine cell_congr ?_
      rw [Addr.add_block]
      exact o' _ hbk
  refine k h' ⟨?_, fun p hp => ?_, hs.cl, hs.nd⟩ (fun x => ?_) (fun x => ?_) uu
  · obtain ⟨pn, pe, hc⟩ := hs.ca
    by_cases e : c = ab
    · subst e
      have ho : ao = 3 := by simpa [nodeB] using hna
      subst ho
      rw [hc] at hb
      cases hb
      rcases hi with rfl | rfl
      · exact ⟨v, pe, by rw [b']; rfl⟩
      · exact ⟨pn, v, by rw [b']; rfl⟩
    · exact ⟨pn, pe, (o' c e).trans hc⟩
  · obtain ⟨pn, pe, hc⟩ := hs.en p hp
    by_cases e : p.1 = ab
    · subst e
      have ho : ao = 0 := by simpa [nodeB, hs.ne hp] using hna
      subst ho
      rw [hc] at hb
      cases hb
      rcases hi with rfl | rfl
      · exact ⟨v, pe, by rw [b']; rfl⟩
      · exact ⟨pn, v, by rw [b']; rfl⟩
    · exact ⟨pn, pe, (o' _ e).trans hc⟩
  · unfold nwf
    cases hx : nodeB c x with
    | true => simp only [if_true]; exact hcell x 3 hx (.inl rfl)
    | false =>
      have : ¬ (x = ⟨ab, ao, none⟩ ∧ i = 3) := fun h => by rw [h.1, hna] at hx; cases hx
      rw [if_neg this]; rfl
  · unfold elf
    cases hx : nodeB c x with
    | true => simp only [if_true]; exact hcell x 4 hx (.inr rfl)
    | false =>
      have : ¬ (x = ⟨ab, ao, none⟩ ∧ i = 4) := fun h => by rw [h.1, hna] at hx; cases hx
      rw [if_neg this]; rfl
theorem nwf_rd {x : Addr} (hf : nwf c h a = Ptr x) : Reads Tryz.prog (Instr.loadAt 153 (.pointer (some (a.add 3)))) h (.pointer (some x)) := by
  unfold nwf at hf
  split at hf
  · exact reads_load kEp hf
  · cases hf
theorem elf_rd {x : Addr} (hf : elf c h a = Ptr x) : Reads Tryz.prog (Instr.loadAt 153 (.pointer (some (a.add 4)))) h (.pointer (some x)) := by
  unfold elf at hf
  split at hf
  · exact reads_load kEp hf
  · cases hf
/-- the ring. -/
structure Ring (h : Heap) (c : Nat) (d : Cd) (L : List (Nat × En)) : Prop where
  shp : Shp h c d L
  ch : Ch (nwf c h) (elf c h) (endA c) (L.map fun p => ad p.1) (endA c)
theorem Shp.nodes (hs : Shp h c d L) : (endA c :: L.map fun p => ad p.1).Nodup := by
  refine List.nodup_cons.2 ⟨fun hm => ?_, ?_⟩
  · obtain ⟨p, hp, e⟩ := List.mem_map.1 hm
    exact hs.ne hp (congrArg Addr.block e)
  · have : (L.map fun p => ad p.1) = (L.map (·.1)).map ad := by rw [List.map_map]; rfl
    rw [this]
    exact List.Pairwise.map ad (fun a b hab e => hab (congrArg Addr.block e)) hs.nd
theorem at_last : ∀ (X : List (Nat × En)) (L : List (Nat × En)), (∀ p ∈ X, p ∈ L) → At_ c L (lastA (endA c) (X.map fun p => ad p.1))
  | X, L, h => by
    rcases List.mem_cons.1 (lastA_mem (X.map fun p => ad p.1) (endA c)) with e | e
    · exact .inl e
    · obtain ⟨p, hp, e⟩ := List.mem_map.1 e
      exact .inr ⟨p, h p hp, e.symm⟩
theorem at_head (Y L : List (Nat × En)) (h : ∀ p ∈ Y, p ∈ L) : At_ c L ((Y.map fun p => ad p.1).headD (endA c)) := by
  cases Y with
  | nil => exact .inl rfl
  | cons p Y => exact .inr ⟨p, h p List.mem_cons_self, rfl⟩
theorem Shp.sub (hs : Shp h c d L) {L' : List (Nat × En)} (hl : L'.Sublist L) : Shp h c d L' :=
  ⟨hs.ca, fun p hp => hs.en p (hl.subset hp), fun hm => hs.cl ((hl.map _).subset hm), (hl.map _).nodup hs.nd⟩
theorem out_spec {X Y : List (Nat × En)} {b : Nat} {e : En} (hr : Ring h c d (X ++ (b, e) :: Y)) :
    HC Tryz.prog 82 #[.pointer (some ⟨b, 0, none⟩)] h fun v h' => v = .tuple #[] ∧ Ring h' c d (X ++ Y) ∧ Shp h' c d (X ++ (b, e) :: Y) ∧ Upd (fun q => q = c ∨ q ∈ (X ++ (b, e) :: Y).map (·.1)) h h' := by
  have hs := hr.shp
  have hch := hr.ch
  rw [List.map_append, List.map_cons] at hch
  obtain ⟨c1, c2⟩ := (Ch.app _).1 hch
  have fel := c1.back
  have fnw := c2.fore
  have hnod := hs.nodes
  rw [List.map_append, List.map_cons] at hnod
  have aP := at_last (c := c) X (X ++ (b, e) :: Y) fun p hp => List.mem_append_left _ hp
  have aN := at_head (c := c) Y (X ++ (b, e) :: Y) fun p hp => List.mem_append_right _ (List.mem_cons_of_mem _ hp)
  refine HC_of_vc (args := [.pointer (some ⟨b, 0, none⟩)]) (base := 22) (cuts := []) (bigs := []) kM Tryz.func82 ?_
  rw [vcCOut]
  refine ⟨_, rfl, _, nwf_rd fnw, _, rfl, _, elf_rd fel, _, rfl, _, elf_rd fel, _, rfl, _, nwf_rd fnw, _, rfl, hs.store aN (.inr rfl) fun h10 s10 n10 e10 u10 => ⟨_, rfl, s10.store aP (.inl rfl) fun h13 s13 n13 e13 u13 => ?_⟩⟩
  have inS : ∀ {x : Addr}, At_ c (X ++ (b, e) :: Y) x → ∀ q, q = x.block → q = c ∨ q ∈ (X ++ (b, e) :: Y).map (·.1) := fun hx q hq => by
    rcases hx with rfl | ⟨p, hp, rfl⟩
    · exact .inl hq
    · exact .inr (hq ▸ List.mem_map_of_mem hp)
  refine ⟨rfl, ⟨s13.sub (List.Sublist.append (List.Sublist.refl _) (List.sublist_cons_self _ _)), ?_⟩, s13, (u10.mono (inS aN)).trans (u13.mono (inS aP))⟩
  rw [List.map_append]
  refine hch.out hnod rfl ?_ ?_ (fun x hx => ?_) fun x hx => ?_
  · rw [n13, if_pos ⟨rfl, rfl⟩]
  · rw [e13, if_neg (fun h => by simp at h), e10, if_pos ⟨rfl, rfl⟩]
  · rw [n13, if_neg (fun h => hx h.1), n10, if_neg (fun h => by simp at h)]
  · rw [e13, if_neg (fun h => by simp at h), e10, if_neg (fun h => hx h.1)]
theorem in_spec {b : Nat} {e : En} (hr : Ring h c d L) (hs : Shp h c d (L ++ [(b, e)])) :
    HC Tryz.prog 83 #[.pointer (some ⟨c, 0, none⟩), .pointer (some ⟨b, 0, none⟩)] h fun v h' => v = .tuple #[] ∧ Ring h' c d (L ++ [(b, e)]) ∧ Upd (fun q => q = c ∨ q ∈ (L ++ [(b, e)]).map (·.1)) h h' := by
  have fel := hr.ch.back
  have hnod := hr.shp.nodes
  have hnod2 := hs.nodes
  rw [List.map_append] at hnod2
  have aP := at_last (c := c) L (L ++ [(b, e)]) fun p hp => List.mem_append_left _ hp
  have aE : At_ c (L ++ [(b, e)]) (ad b) := .inr ⟨(b, e), by simp, rfl⟩
  have aC : At_ c (L ++ [(b, e)]) (endA c) := .inl rfl
  have heL : ad b ∉ L.map fun p => ad p.1 := fun hm => by
    have := (List.nodup_append.1 (List.nodup_cons.1 hnod2).2).2.2
    exact this _ hm _ List.mem_cons_self rfl
  have hec : ad b ≠ endA c := fun h => by cases h
  have hlast : lastA (endA c) (L.map fun p => ad p.1) ≠ ad b := fun h => by
    rcases List.mem_cons.1 (lastA_mem (L.map fun p => ad p.1) (endA c)) with h2 | h2
    · rw [h2] at h; cases h
    · rw [h] at h2; exact heL h2
  refine HC_of_vc (args := [.pointer (some ⟨c, 0, none⟩), .pointer (some ⟨b, 0, none⟩)]) (base := 30) (cuts := []) (bigs := []) kM Tryz.func83 ?_
  rw [vcCIn]
  have eC : (⟨c, 0, none⟩ : Addr).add 3 = endA c := Addr.add_row c 0 3
  refine ⟨_, rfl, _, by rw [eC]; exact elf_rd fel, _, rfl, _, rfl, hs.store aE (.inr rfl) fun h5 s5 n5 e5 u5 => ⟨_, rfl, ?_⟩⟩
  rw [eC]
  refine s5.store aE (.inl rfl) fun h8 s8 n8 e8 u8 => ⟨_, rfl, _, elf_rd (c := c) (x := lastA (endA c) (L.map fun p => ad p.1)) ?_, _, rfl, s8.store aP (.inl rfl) fun h13 s13 n13 e13 u13 => ⟨_, rfl, ?_⟩⟩
  · rw [e8, if_neg (fun h => by simp at h), e5, if_pos ⟨rfl, rfl⟩]
  rw [eC]
  refine s13.store aC (.inr rfl) fun h16 s16 n16 e16 u16 => ?_
  have inS : ∀ {x : Addr}, At_ c (L ++ [(b, e)]) x → ∀ q, q = x.block → q = c ∨ q ∈ (L ++ [(b, e)]).map (·.1) := fun hx q hq => by
    rcases hx with rfl | ⟨p, hp, rfl⟩
    · exact .inl hq
    · exact .inr (hq ▸ List.mem_map_of_mem hp)
  refine ⟨rfl, ⟨s16, ?_⟩, (((u5.mono (inS aE)).trans (u8.mono (inS aE))).trans (u13.mono (inS aP))).trans (u16.mono (inS aC))⟩
  rw [List.map_append]
  refine hr.ch.inn hnod hec heL ?_ ?_ ?_ ?_ (fun x h1 h2 => ?_) fun x h1 h2 => ?_
  · rw [n16, if_neg (fun h => by simp at h), n13, if_pos ⟨rfl, rfl⟩]
  · rw [e16, if_neg (fun h => hec h.1), e13, if_neg (fun h => by simp at h), e8, if_neg (fun h => by simp at h), e5, if_pos ⟨rfl, rfl⟩]
  · rw [n16, if_neg (fun h => by simp at h), n13, if_neg (fun h => hlast h.1.symm), n8, if_pos ⟨rfl, rfl⟩]
  · rw [e16, if_pos ⟨rfl, rfl⟩]
  · rw [n16, if_neg (fun h => by simp at h), n13, if_neg (fun h => h1 h.1), n8, if_neg (fun h => h2 h.1), n5, if_neg (fun h => by simp at h)]
  · rw [e16, if_neg (fun h => h2 h.1), e13, if_neg (fun h => by simp at h), e8, if_neg (fun h => by simp at h), e5, if_neg (fun h => h1 h.1)]
end
end Go.Proofs.YtcihjdalokaokaaGreatDoor
