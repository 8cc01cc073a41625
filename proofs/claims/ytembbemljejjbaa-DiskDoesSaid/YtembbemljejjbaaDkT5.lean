/-
  DiskDoes, walked: a disk that is nil; a disk and its reference have the same files; the law returns true. Conditions: none.
-/
import Derived.Test.YtembbemljejjbaaDkT4
import Derived.Test.YtembbemljejjbaaRNg
set_option linter.unusedVariables false
set_option linter.unusedSimpArgs false
set_option maxRecDepth 100000
namespace Go.Proofs.Ytembbemljejjbaa
open Go Go.Vc Go.Proofs Go.Dk

/- ------------------------------------------------------------------ a nil disk -/
theorem br_false {P Q : Prop} (h : Q) : br false P Q := br_intro (fun e => by cases e) fun _ => h
section
variable {h : Heap}
theorem off_nil (k : Int) : HC Try.prog 19 #[.pointer none, .int .u64 k] h fun v h' => h' = h ∧ v = .tuple #[] := by
  refine HC_of_vc (args := [.pointer none, .int .u64 k]) (base := 83) (cuts := []) (bigs := []) hm Try.func19 ?_
  rw [nlOff]
  refine ready_nil.mono ?_
  rintro v _ ⟨rfl, rfl⟩
  exact ⟨_, rfl, br_true ⟨rfl, rfl⟩⟩
theorem on_nil : HC Try.prog 20 #[.pointer none] h fun v h' => h' = h ∧ v = .tuple #[] := by
  refine HC_of_vc (args := [.pointer none]) (base := 7) (cuts := []) (bigs := []) hm Try.func20 ?_
  rw [nlOn]
  exact ⟨_, reads_neq_nil undD, br_false ⟨rfl, rfl⟩⟩
theorem arm_nil (n k : Int) : HC Try.prog 18 #[.pointer none, .int .i64 n, .int .u64 k] h fun v h' => h' = h ∧ v = .tuple #[] := by
  refine HC_of_vc (args := [.pointer none, .int .i64 n, .int .u64 k]) (base := 17) (cuts := []) (bigs := []) hm Try.func18 ?_
  rw [nlArm]
  exact ⟨_, reads_neq_nil undD, br_false ⟨rfl, rfl⟩⟩
theorem read_nil (s : Str) (i : Int) : HC Try.prog 16 #[.pointer none, .string s, .int .i64 i] h fun v h' => h' = h ∧ v = .tuple #[.slice none 0 0, .int .i64 2] := by
  refine HC_of_vc (args := [.pointer none, .string s, .int .i64 i]) (base := 38) (cuts := []) (bigs := []) hm Try.func16 ?_
  rw [nlRead]
  refine ready_nil.mono ?_
  rintro v _ ⟨rfl, rfl⟩
  exact ⟨_, rfl, br_true ⟨rfl, rfl⟩⟩
theorem write_nil (s : Str) (i : Int) : HC Try.prog 15 #[.pointer none, .string s, .int .i64 i, .slice none 0 0] h fun v h' => h' = h ∧ v = .int .i64 2 := by
  refine HC_of_vc (args := [.pointer none, .string s, .int .i64 i, .slice none 0 0]) (base := 82) (cuts := []) (bigs := []) hm Try.func15 ?_
  rw [nlWrite]
  refine ready_nil.mono ?_
  rintro v _ ⟨rfl, rfl⟩
  exact ⟨_, rfl, br_true ⟨rfl, rfl⟩⟩
theorem does_nil (s : Str) (f : Nat) (cap : Array Value) : HC Try.prog 50 #[.pointer none, .string s, .func (.func f) #[] cap] h fun v h' => h' = h ∧ v = .int .i64 2 := by
  refine HC_of_vc (args := [.pointer none, .string s, .func (.func f) #[] cap]) (base := 31) (cuts := []) (bigs := []) hm Try.func50 ?_
  rw [nlDoes]
  refine ready_nil.mono ?_
  rintro v _ ⟨rfl, rfl⟩
  exact ⟨_, rfl, br_true ⟨rfl, rfl⟩⟩
theorem sync_nil (s : Str) : HC Try.prog 17 #[.pointer none, .string s] h fun v h' => h' = h ∧ v = .int .i64 2 := by
  refine HC_of_vc (args := [.pointer none, .string s]) (base := 15) (cuts := []) (bigs := []) hm Try.func17 ?_
  rw [nlSync]
  refine (does_nil s _ _).mono ?_
  rintro v _ ⟨rfl, rfl⟩
  exact ⟨_, rfl, br_false ⟨rfl, rfl⟩⟩
theorem cut_nil (s : Str) (n : Int) : HC Try.prog 24 #[.pointer none, .string s, .int .i64 n] h fun v h' => Keep h.size h h' ∧ v = .int .i64 2 := by
  refine HC_of_vc (args := [.pointer none, .string s, .int .i64 n]) (base := 64) (cuts := []) (bigs := []) hm Try.func24 ?_
  rw [nlCut]
  refine ready_nil.mono ?_
  rintro v _ ⟨rfl, rfl⟩
  exact ⟨_, rfl, br_true ⟨(keep_push h _).trans (Keep.push _ _ _ (by simp)), rfl⟩⟩
theorem rename_nil (s t : Str) : HC Try.prog 26 #[.pointer none, .string s, .string t] h fun v h' => Keep h.size h h' ∧ v = .int .i64 2 := by
  refine HC_of_vc (args := [.pointer none, .string s, .string t]) (base := 77) (cuts := []) (bigs := []) hm Try.func26 ?_
  rw [nlRename]
  refine ready_nil.mono ?_
  rintro v _ ⟨rfl, rfl⟩
  have hF : ∀ {a : Bool}, (((2 : Int) == 0) && a) = true → False := fun h => by simp at h
  refine ⟨_, rfl, s, fun e => by simp at e, t, fun e => by simp at e, s, fun e => (hF e).elim, br_false ⟨s, reads_load scS (cell_cells0 (push2_0 _ _ _) rfl), (does_nil s _ _).mono ?_⟩⟩
  rintro v _ ⟨rfl, rfl⟩
  exact ⟨_, rfl, br_false ⟨(keep_push h _).trans (Keep.push _ _ _ (by simp)), rfl⟩⟩
theorem remove_nil (s : Str) : HC Try.prog 25 #[.pointer none, .string s] h fun v h' => Keep h.size h h' ∧ v = .int .i64 2 := by
  refine HC_of_vc (args := [.pointer none, .string s]) (base := 30) (cuts := []) (bigs := []) hm Try.func25 ?_
  rw [nlRemove]
  refine ⟨s, reads_load scS (cell_cells0 (push_at _ _) rfl), (does_nil s _ _).mono ?_⟩
  rintro v _ ⟨rfl, rfl⟩
  exact ⟨_, rfl, br_false ⟨keep_push h _, rfl⟩⟩
theorem names_nil : HC Try.prog 33 #[.pointer none] h fun v h' => h' = h ∧ v = .slice none 0 0 := by
  refine HC_of_vc (args := [.pointer none]) (base := 13) (cuts := []) (bigs := []) hm Try.func33 ?_
  rw [nlNames]
  refine ready_nil.mono ?_
  rintro v _ ⟨rfl, rfl⟩
  exact ⟨_, rfl, br_true ⟨rfl, rfl⟩⟩
theorem acts_nil : HC Try.prog 30 #[.pointer none] h fun v h' => h' = h ∧ v = .int .i64 0 := by
  refine HC_of_vc (args := [.pointer none]) (base := 9) (cuts := []) (bigs := []) hm Try.func30 ?_
  rw [nlActs]
  exact ⟨_, reads_eql_nil undD, br_true ⟨rfl, rfl⟩⟩
theorem down_nil : HC Try.prog 31 #[.pointer none] h fun v h' => h' = h ∧ v = .bool false := by
  refine HC_of_vc (args := [.pointer none]) (base := 11) (cuts := []) (bigs := []) hm Try.func31 ?_
  rw [nlDown]
  exact ⟨_, reads_neq_nil undD, ⟨0, 0, none⟩, fun e => (by cases e), false, fun e => (by cases e), rfl, rfl⟩
theorem free_nil : HC Try.prog 22 #[.pointer none] h fun v h' => h' = h ∧ v = .int .i64 0 := by
  refine HC_of_vc (args := [.pointer none]) (base := 26) (cuts := []) (bigs := []) hm Try.func22 ?_
  rw [nlFree]
  exact ⟨_, reads_eql_nil undD, br_true ⟨rfl, rfl⟩⟩
theorem count_nil (s : Str) : HC Try.prog 21 #[.pointer none, .string s] h fun v h' => h' = h ∧ v = .int .i64 0 := by
  refine HC_of_vc (args := [.pointer none, .string s]) (base := 15) (cuts := []) (bigs := []) hm Try.func21 ?_
  rw [nlCount]
  refine ready_nil.mono ?_
  rintro v _ ⟨rfl, rfl⟩
  exact ⟨_, rfl, br_true ⟨rfl, rfl⟩⟩
theorem has_nil (s : Str) : HC Try.prog 23 #[.pointer none, .string s] h fun v h' => h' = h ∧ v = .bool false := by
  refine HC_of_vc (args := [.pointer none, .string s]) (base := 21) (cuts := []) (bigs := []) hm Try.func23 ?_
  rw [nlHas]
  refine ready_nil.mono ?_
  rintro v _ ⟨rfl, rfl⟩
  exact ⟨_, rfl, br_true ⟨rfl, rfl⟩⟩
end

/- ------------------------------------------------------------------ the same files -/
theorem get_of {fs : List Fl} {F : Fs} (he : fs.map Fl.pl = F) (hF : SrtF F) {f : Fl} (hf : f ∈ fs) : mGet F f.n = some f.pages := by
  refine (mGet_mem (srt_nodup hF) f.n f.pages).1 ?_
  rw [← he]
  exact List.mem_map_of_mem (f := Fl.pl) hf
set_option maxHeartbeats 2000000 in
theorem sameD_spec {h : Heap} {d m : Nat} {x : D} {O N : Nat → Prop} {k : Nat} (p : Pair h d m x O N) (few : Few k x) (hk : k ≤ 1000) :
    HC Try.prog 34 #[.pointer (some ⟨d, 0, none⟩), .pointer (some ⟨m, 0, none⟩)] h fun v h' => Keep h.size h h' ∧ v = .bool true := by
  refine HC_of_vc (args := [.pointer (some ⟨d, 0, none⟩), .pointer (some ⟨m, 0, none⟩)]) (base := 74) (cuts := []) (bigs := []) hm Try.func34 ?_
  rw [vcSameD]
  have hnl : x.now.length ≤ 1073741824 := by have := few.num; omega
  have ok := p.ok
  obtain ⟨A1, n1, c1, f1, A2, n2, c2, f2, A3, n3, c3, hp⟩ := p.ref
  have hl1 := hp.now.len
  have hle := fs_len hp.nowE
  refine ⟨fun H => RefP H m x N A1 n1 c1 f1 A2 n2 c2 f2 A3 n3 c3, hp, (dnames_spec p.disk hnl few.siz).mono ?_⟩
  rintro v h2 ⟨k2, a3, n4, c5, rfl, sl2⟩
  refine ⟨_, _, _, rfl, hp.keep k2, (rnames_spec (p.ref.keep k2) hnl).mono ?_⟩
  rintro v h7 ⟨k7, a8, n9, c10, rfl, sl7⟩
  have k07 := k2.trans (k7.mono k2.size)
  have hll : (namesD x).length ≤ 1073741824 := by
    unfold namesD; split
    · simp
    · rw [len_names]; exact hnl
  refine ⟨_, _, _, rfl, hp.keep k07, (same_spec (sl2.keep k7) sl7 hll).mono ?_⟩
  rintro v _ ⟨rfl, rfl⟩
  have p7 := p.keep k07
  have hp7 := hp.keep k07
  refine ⟨_, rfl, hp7, br_true ((dacts_spec p7.disk).mono ?_)⟩
  rintro v _ ⟨rfl, rfl⟩
  refine ⟨_, rfl, hp7, _, fun _ => rfl, x.acts, fun _ H hH => reads_load scI (hH.rd rfl), ?_⟩
  rw [beq_self]
  refine br_true ((ddown_spec p7.disk).mono ?_)
  rintro v _ ⟨rfl, rfl⟩
  refine ⟨_, rfl, hp7, _, fun _ => rfl, x.down, fun _ H hH => reads_load scB (hH.rd rfl), _, fun _ => reads_neq_b undBo, ?_⟩
  rw [beq_self_eq_true]
  refine br_true ((free_spec p7.disk).mono ?_)
  rintro v h28 ⟨k28, rfl⟩
  refine ⟨_, rfl, (rfree_spec (p7.ref.keep k28) ok hnl).mono ?_⟩
  rintro v h31 ⟨k31, rfl⟩
  have k0 : Keep h.size h h31 := k07.trans ((k28.mono k07.size).trans (k31.mono (Nat.le_trans k07.size k28.size)))
  have hp31 := hp.keep k0
  refine ⟨_, rfl, br_intro (fun e => by simp at e) fun _ => ⟨_, rfl, A1, n1, c1, reads_load scFs (cell_cells0 hp31.box rfl), ?_⟩⟩
  refine ⟨fun _ n40 h41 => ∃ j : Nat, n40 = j ∧ j ≤ n1 ∧ Keep h.size h h41, fun _ n40 _ => n1 - n40.toNat, ⟨0, rfl, Nat.zero_le _, k0⟩, ?_⟩
  rintro b39 n40 h41 ⟨j, rfl, hj, k41⟩
  refine br_intro (fun hlt => ?_) (fun hge => ⟨k41, rfl⟩)
  have hlt := of_decide_eq_true hlt
  have hlt : j < n1 := by omega
  obtain ⟨f, q, hx, hA, rd, okf⟩ := fs_at (hp.now.keep k41) hlt
  have hget := get_of hp.nowE ok.now (List.mem_of_getElem? hx)
  refine ⟨q, ⟨hA, by omega, by omega⟩, _, _, _, _, rd, svc_fl rfl ?_⟩
  have b48 := push_at h41 (flBox f)
  have k48 := k41.trans ((keep_push h41 (flBox f)).mono k41.size)
  have p48 := p.keep k48
  have hp48 := hp.keep k48
  generalize h41.push (flBox f) = h48 at *
  rw [wrap_i64 (by omega) (by omega)]
  refine ⟨_, _, _, fb_pages b48, _, rfl, _, reads_load scB (hp48.rd rfl), br_intro (fun e => ?_) (fun e => ?_)⟩
  · have e : x.down = true := e
    refine ⟨fun H => RefP H m x N A1 n1 c1 f1 A2 n2 c2 f2 A3 n3 c3, hp48, _, fb_name b48, (count_spec p48.disk f.n).mono ?_⟩
    rintro v _ ⟨rfl, rfl⟩
    have hc : ((Dk.count x f.n : Nat) : Int) = 0 := by unfold Dk.count; rw [if_pos e]; rfl
    rw [hc]
    refine ⟨_, rfl, hp48, f.n, fun _ => fb_name b48, br_true ((has_spec p48.disk f.n).mono ?_)⟩
    rintro v _ ⟨rfl, rfl⟩
    have hh : has x f.n = false := by unfold has; rw [e]; rfl
    rw [hh]
    refine ⟨_, rfl, hp48, _, fun _ => rfl, x.down, fun _ H hH => reads_load scB (hH.rd rfl), _, fun _ => reads_neq_b undBo, ?_⟩
    rw [e]
    exact br_false ⟨⟨j + 1, rfl, hlt, k48⟩, by dsimp only; omega⟩
  · have e : x.down = false := e
    refine ⟨fun H => RefP H m x N A1 n1 c1 f1 A2 n2 c2 f2 A3 n3 c3, hp48, _, fb_name b48, (count_spec p48.disk f.n).mono ?_⟩
    rintro v _ ⟨rfl, rfl⟩
    have hc : ((Dk.count x f.n : Nat) : Int) = f.len := by
      unfold Dk.count
      rw [if_neg (by rw [e]; decide)]
      unfold pgs
      rw [hget]
      have := okf.sl.len
      show ((f.pages.length : Nat) : Int) = _
      omega
    rw [hc]
    refine ⟨_, rfl, hp48, f.n, fun _ => fb_name b48, ?_⟩
    rw [beq_self]
    refine br_true ((has_spec p48.disk f.n).mono ?_)
    rintro v _ ⟨rfl, rfl⟩
    have hh : has x f.n = true := by unfold has; rw [e, hget]; rfl
    rw [hh]
    refine ⟨_, rfl, hp48, _, fun _ => rfl, x.down, fun _ H hH => reads_load scB (hH.rd rfl), _, fun _ => reads_neq_b undBo, ?_⟩
    rw [e]
    exact br_false ⟨⟨j + 1, rfl, hlt, k48⟩, by dsimp only; omega⟩

/- ------------------------------------------------------------------ the law -/
theorem read_on {x : D} {f : Fl} {fs : List Fl} (he : fs.map Fl.pl = x.now) (ok : Ok x) (hf : f ∈ fs) {i : Nat} {s : Str} (hi : f.pages[i]? = some s) : Dk.read (on x) f.n i = (s, 0) := by
  have hg : pgs (on x).now f.n = f.pages := by show pgs x.now f.n = _; unfold pgs; rw [get_of he ok.now hf]; rfl
  obtain ⟨hl, e⟩ := List.getElem?_eq_some_iff.1 hi
  unfold Dk.read
  rw [if_neg (by show ¬ false = true; decide), hg, if_neg (by omega), Int.toNat_natCast, List.getD_eq_getElem?_getD, hi]
  rfl
set_option maxHeartbeats 4000000 in
theorem doesL_spec {h : Heap} {A : Option Addr} {n c : Nat} {cs : List Cl} {room : Int} (hs : Sl CallE h A n cs) (hc : ∀ c ∈ cs, ClOk (fun _ => False) h c) (hn : n ≤ 9223372036854775807) :
    HC Try.prog 9 #[.int .i64 room, .slice A n c] h fun v h' => Keep h.size h h' ∧ v = .bool true := by
  refine HC_of_vc (args := [.int .i64 room, .slice A n c]) (base := 153) (cuts := []) (bigs := []) hm Try.func9 ?_
  rw [vcDoesL]
  refine (alive_spec h).mono ?_
  rintro v h1 ⟨k1, rfl⟩
  refine ⟨_, rfl, br_intro (fun e => by cases e) fun _ => (great_spec (c := c) (hs.keep k1) hn).mono ?_⟩
  rintro v h4 ⟨k4, bg, rfl, hg⟩
  have k04 := k1.trans (k4.mono k1.size)
  refine ⟨_, rfl, br_intro (fun e => ⟨k04, rfl⟩) fun e => ?_⟩
  have hn80 : n ≤ 80 := hg e
  refine (new_spec h4 room).mono ?_
  rintro v h7 ⟨k7, d, rfl, d7⟩
  refine ⟨_, rfl, (rnew_spec h7 room (fun q => h4.size ≤ q ∧ q < h7.size + 1)).mono ?_⟩
  rintro v h10 ⟨k10, s10, rfl, r10⟩
  have s7 := k7.size
  have p10 : Pair h10 d h7.size (new room) (fun q => h4.size ≤ q ∧ q < h7.size) (fun q => h4.size ≤ q ∧ q < h7.size + 1) :=
    ⟨d7.keep k10, r10.turn (M := fun q => h4.size ≤ q ∧ q < h7.size + 1) (fun q _ hq => .inl hq) (by omega), fun q hq => by omega, by omega, fun q hq => by omega⟩
  have b10 : Keep h.size h h10 := k04.trans ((k7.mono k04.size).trans (k10.mono (Nat.le_trans k04.size s7)))
  have n10 : ∀ q, (h4.size ≤ q ∧ q < h7.size + 1) → h.size ≤ q := fun q hq => Nat.le_trans k04.size hq.1
  refine ⟨_, rfl, fun _ n15 h16 => ∃ (k : Nat) (x : D) (O N : Nat → Prop), n15 = k ∧ k ≤ n ∧ Keep h.size h h16 ∧ Pair h16 d h7.size x O N ∧ (∀ q, N q → h.size ≤ q) ∧ Few k x, fun _ n15 _ => n - n15.toNat, ⟨0, _, _, _, rfl, Nat.zero_le _, b10, p10, n10, few_new room⟩, ?_⟩
  clear p10 b10 n10 r10 d7
  generalize h7.size = m
  rintro b14 n15 h16 ⟨k, x, O, N, rfl, hk, b16, p16, new16, few⟩
  refine br_intro (fun hlt => ?_) (fun hge => ?_)
  · have hlt := of_decide_eq_true hlt
    have hlt : k < n := by omega
    obtain ⟨cl, p, hx, hA, rd⟩ := cl_at hs b16 hlt
    have hcl := hc cl (List.mem_of_getElem? hx)
    refine ⟨p, ⟨hA, by omega, by omega⟩, _, _, _, _, _, _, _, _, rd, svc_cl rfl ?_⟩
    have bx := push_at h16 (clBox cl)
    have kx := keep_push h16 (clBox cl)
    have px := p16.keep kx
    have b27 := b16.trans (kx.mono b16.size)
    refine ⟨_, _, _, _, _, _, _, _, cb_all bx, (do_spec px (clok_of hcl b27 new16) few (by omega)).mono ?_⟩
    rintro v h37 ⟨⟨O', N', q1, e1, e2, e3, u1⟩, rfl⟩
    have b37 : Keep h.size h h37 := b27.trans (u1.keep b27.size fun q hq => new16 q (hq.elim (px.sub q) fun e => e ▸ px.ref.nm))
    have few' := few_doC few p16.ok (clok_of hcl b27 new16)
    refine ⟨_, rfl, br_true ((sameD_spec q1 few' (by omega)).mono ?_)⟩
    rintro v h40 ⟨k40, rfl⟩
    refine ⟨_, rfl, br_intro (fun e => by cases e) fun _ => ?_⟩
    rw [wrap_i64 (by omega) (by omega)]
    exact ⟨⟨k + 1, _, _, _, rfl, hlt, b37.trans (k40.mono b37.size), q1.keep k40, fun q hq => (e2 q hq).elim (new16 q) fun hl => by have := b27.size; omega, few'⟩, by dsimp only; omega⟩
  · have ok := p16.ok
    have hnl : x.now.length ≤ 1073741824 := by have := few.num; omega
    refine (on_spec p16.disk).mono ?_
    rintro v h43 ⟨a1, a3, rfl⟩
    obtain ⟨O', a, bO, cc, r43, nb43, nm43⟩ := p16.half ⟨O, a1, fun q hq => .inl hq, a3⟩
    refine ⟨rfl, _, rfl, on_spec' r43 fun h46 r46 u46 => ?_⟩
    have d46 : DiskAt h46 d (on x) O' := a.upd u46 fun q hq e => nm43 (e ▸ hq)
    have b46 : Keep h.size h h46 := (b16.trans (a3.keep b16.size fun q hq => new16 q (p16.sub q hq))).trans (u46.keep (Nat.le_trans b16.size a3.size) fun q e => e ▸ new16 m p16.ref.nm)
    obtain ⟨A1, n1, c1, f1, A2, n2, c2, f2, A3, n3, c3, hp⟩ := r46
    have hl1 := hp.now.len
    have hnow : f1.map Fl.pl = x.now := hp.nowE
    have hle := fs_len hnow
    refine ⟨_, rfl, A1, n1, c1, reads_load scFs (cell_cells0 hp.box rfl), ?_⟩
    refine ⟨fun _ n54 H => ∃ j : Nat, n54 = j ∧ j ≤ n1 ∧ Keep h46.size h46 H, fun _ n54 _ => n1 - n54.toNat, ⟨0, rfl, Nat.zero_le _, Keep.refl _ _⟩, ?_⟩
    rintro b53 n54 h55 ⟨j, rfl, hj, k55⟩
    refine br_intro (fun hlt => ?_) (fun hge => ?_)
    · have hlt := of_decide_eq_true hlt
      have hlt : j < n1 := by omega
      obtain ⟨f, q, hx, hA, rd, okf⟩ := fs_at (hp.now.keep k55) hlt
      have hmem := List.mem_of_getElem? hx
      refine ⟨q, ⟨hA, by omega, by omega⟩, _, _, _, _, rd, svc_fl rfl ?_⟩
      have b62 := push_at h55 (flBox f)
      have k62 := keep_push h55 (flBox f)
      have kk := k55.trans (k62.mono k55.size)
      have okf62 := okf.keep k62
      generalize h55.push (flBox f) = h62 at *
      have hfl : f.len ≤ 1073741824 := by
        have h1 := okf.sl.len
        have h2 := pgs_le ok f.n
        have h3 := get_of hnow ok.now hmem
        unfold pgs at h2
        rw [h3] at h2
        have h2 : f.pages.length ≤ 4096 := h2
        omega
      refine ⟨_, _, _, fb_pages b62, fun _ n69 H => ∃ i : Nat, n69 = i ∧ i ≤ f.len ∧ Keep h62.size h62 H, fun _ n69 _ => f.len - n69.toNat, ⟨0, rfl, Nat.zero_le _, Keep.refl _ _⟩, ?_⟩
      rintro b68 n69 h70 ⟨i, rfl, hi, k70⟩
      refine br_intro (fun hlt2 => ?_) (fun hge2 => ?_)
      · have hlt2 := of_decide_eq_true hlt2
        have hlt2 : i < f.len := by omega
        have hll := okf.sl.len
        have hpx : f.pages[i]? = some (f.pages[i]'(by omega)) := List.getElem?_eq_getElem (by omega)
        generalize f.pages[i]'(by omega) = s at hpx
        obtain ⟨q2, hA2, rd2⟩ := fl_at (okf62.keep k70) hpx
        have hr := read_on hnow ok hmem hpx
        refine ⟨q2, ⟨hA2, by omega, by omega⟩, _, rd2, _, fb_name (k70.at b62 (at_lt b62)), (read_spec ((d46.keep kk).keep k70) f.n i).mono ?_⟩
        rintro v h75 ⟨k75, bb, mm, rfl, hm1, hb1, hc1⟩
        rw [hr] at hm1 hc1 ⊢
        have hsl : Sl ByteE h75 (if mm = 0 then none else some ⟨bb, 0, none⟩) mm (bytesL s) := by
          have hsz : s.size = (bytesL s).length := by show s.data.size = s.data.toList.length; rw [Array.length_toList]
          have hm1 : mm = s.size := hm1
          by_cases h0 : mm = 0
          · rw [if_pos h0, h0]
            have : bytesL s = [] := List.eq_nil_of_length_eq_zero (by omega)
            rw [this]; exact Sl.nil _ _
          · rw [if_neg h0]
            have q1 := hc1 h0
            have hh : ((bytesL s).map fun b => Value.int .u8 (b.toNat : Nat)) = (bytesL s).flatMap ByteE.enc := by
              generalize bytesL s = l
              induction l with
              | nil => rfl
              | cons a l ih => rw [List.flatMap_cons, ← ih]; rfl
            rw [hh] at q1
            rw [hm1, hsz]; exact sl_bytes q1
        refine ⟨_, _, _, _, rfl, _, fun _ => reads_string undBs undB undS hsl, ?_⟩
        have ebs : (⟨(bytesL s).toArray⟩ : ByteArray) = s := by apply ByteArray.ext; simp [bytesL]
        rw [ebs]
        refine br_intro (fun e => by simp at e) fun _ => ?_
        rw [wrap_i64 (by omega) (by omega)]
        exact ⟨⟨i + 1, rfl, hlt2, k70.trans (k75.mono k70.size)⟩, by dsimp only; omega⟩
      · rw [wrap_i64 (by omega) (by omega)]
        exact ⟨⟨j + 1, rfl, hlt, kk.trans (k70.mono kk.size)⟩, by dsimp only; omega⟩
    · have b55 : Keep h.size h h55 := b46.trans (k55.mono b46.size)
      refine (off_nil 1).mono ?_
      rintro v _ ⟨rfl, rfl⟩
      refine ⟨rfl, on_nil.mono ?_⟩
      rintro v _ ⟨rfl, rfl⟩
      refine ⟨rfl, (arm_nil 1 1).mono ?_⟩
      rintro v _ ⟨rfl, rfl⟩
      refine ⟨rfl, (read_nil _ 0).mono ?_⟩
      rintro v _ ⟨rfl, rfl⟩
      refine ⟨_, _, _, _, rfl, br_true ((write_nil _ 0).mono ?_)⟩
      rintro v _ ⟨rfl, rfl⟩
      refine ⟨_, rfl, br_true ((sync_nil _).mono ?_)⟩
      rintro v _ ⟨rfl, rfl⟩
      refine ⟨_, rfl, br_true ((cut_nil _ 0).mono ?_)⟩
      rintro v ha ⟨ka, rfl⟩
      refine ⟨_, rfl, br_true ((rename_nil _ _).mono ?_)⟩
      rintro v hb ⟨kb, rfl⟩
      refine ⟨_, rfl, br_true ((remove_nil _).mono ?_)⟩
      rintro v hc' ⟨kc, rfl⟩
      refine ⟨_, rfl, br_true (names_nil.mono ?_)⟩
      rintro v _ ⟨rfl, rfl⟩
      refine ⟨_, _, _, rfl, br_true (acts_nil.mono ?_)⟩
      rintro v _ ⟨rfl, rfl⟩
      refine ⟨_, rfl, br_true (down_nil.mono ?_)⟩
      rintro v _ ⟨rfl, rfl⟩
      refine ⟨_, rfl, br_true (free_nil.mono ?_)⟩
      rintro v _ ⟨rfl, rfl⟩
      refine ⟨_, rfl, br_true ((count_nil _).mono ?_)⟩
      rintro v _ ⟨rfl, rfl⟩
      refine ⟨_, rfl, br_true ((has_nil _).mono ?_)⟩
      rintro v _ ⟨rfl, rfl⟩
      exact ⟨_, rfl, b55.trans ((ka.mono b55.size).trans ((kb.mono (Nat.le_trans b55.size ka.size)).trans (kc.mono (Nat.le_trans b55.size (Nat.le_trans ka.size kb.size))))), rfl⟩
end Go.Proofs.Ytembbemljejjbaa
