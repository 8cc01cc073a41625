/-
  The disk's reference: its power goes; its acts, write, sync, cut, remove and rename. Conditions: none.
-/
import Derived.Test.YtembbemljejjbaaDkR
set_option linter.unusedVariables false
set_option linter.unusedSimpArgs false
set_option maxRecDepth 100000
namespace Go.Proofs.Ytembbemljejjbaa
open Go Go.Vc Go.Proofs Go.Dk

theorem wrap_u64 {n : Int} (h0 : 0 ≤ n) (h1 : n < 18446744073709551616) : IntKind.u64.wrap n = n := by
  unfold IntKind.wrap IntKind.signed IntKind.bits
  simp
  omega
theorem kept_eq2 {keep : Int} (hk : 0 ≤ keep ∧ keep < 18446744073709551616) (k : Nat) :
    ((keep.fdiv ((2 : Int) ^ min (IntKind.u64.wrap ((k : Int).tmod 64)).toNat 64)).tmod 2 == (1 : Int)) = kept keep k := by
  obtain ⟨n, rfl⟩ := Int.eq_ofNat_of_zero_le hk.1
  have e0 : (k : Int).tmod 64 = ((k % 64 : Nat) : Int) := by rw [Int.tmod_eq_emod_of_nonneg (by omega)]; omega
  have e2 : min (k % 64) 64 = k % 64 := by omega
  have e3 : ((n : Int).fdiv ((2 : Int) ^ (k % 64))) = ((n >>> (k % 64) : Nat) : Int) := by
    rw [Nat.shiftRight_eq_div_pow, Int.fdiv_eq_ediv_of_nonneg _ (Int.le_of_lt (Int.pow_pos (by decide)))]
    simp
  rw [e0, wrap_u64 (by omega) (by omega), Int.toNat_natCast, e2, e3]
  unfold kept
  simp only [Int.toNat_natCast]
  generalize n >>> (k % 64) = m
  have e4 : (m : Int).tmod 2 = ((m % 2 : Nat) : Int) := by rw [Int.tmod_eq_emod_of_nonneg (by omega)]; omega
  rw [e4]
  by_cases h : m % 2 = 1
  · rw [h]; rfl
  · rw [beq_eq_false_iff_ne.2 (by omega), beq_eq_false_iff_ne.2 (by omega)]
theorem len_keepW (keep : Int) : ∀ (ws : List Wt) (i : Nat) (F : Fs), (keepW keep i ws F).length ≤ F.length + ws.length
  | [], i, F => Nat.le_refl _
  | w :: ws, i, F => by
    have h1 := len_keepW keep ws (i + 1) (if kept keep i then app1 F w else F)
    have h2 : (if kept keep i then app1 F w else F).length ≤ F.length + 1 := by split; exact len_put _ _ _; omega
    simp only [keepW, List.length_cons]; omega
theorem len_addN : ∀ (l : List Str) (F : Fs), (l.foldl addN F).length ≤ F.length + l.length
  | [], F => Nat.le_refl _
  | n :: l, F => by
    have h1 := len_addN l (addN F n)
    have h2 : (addN F n).length ≤ F.length + 1 := by unfold addN; split; omega; exact len_put _ _ _
    simp only [List.foldl_cons, List.length_cons]; omega
theorem pgs_le {x : D} (h : Ok x) (s : Str) : (pgs x.now s).length ≤ 4096 := by
  have h3 := tot_put h.now s []
  have h1 := h.tot
  have h2 := h.room
  simp at h3
  omega
theorem goP_pl (x : Fl) (fs : List Fl) : (goP Fl.n x false fs).map Fl.pl = goP (·.1) x.pl false (fs.map Fl.pl) := goP_map Fl.n (·.1) Fl.pl (fun _ => rfl) x fs false
theorem goP_fs {fs : List Fl} {x : Fl} {F : Fs} (he : fs.map Fl.pl = F) (hF : SrtF F) : (goP Fl.n x false fs).map Fl.pl = put x.n x.pages F := by
  rw [goP_pl, he, goP_put x.pl hF]; rfl

set_option maxHeartbeats 2000000 in
theorem rlose_spec {h : Heap} {m : Nat} {x : D} {N : Nat → Prop} (hN : Nb N h) (hr : RefAt h m x N) (ok : Ok x) {keep : Int} (hk : 0 ≤ keep ∧ keep < 18446744073709551616)
    (hn1 : x.now.length ≤ 1048576) (hn2 : x.safe.length ≤ 1048576) (hn3 : x.waits.length ≤ 1048576) :
    HC Try.prog 69 #[.pointer (some ⟨m, 0, none⟩), .int .u64 keep] h fun v h' => RefAt h' m (off keep x) N ∧ Upd (fun q => q = m) h h' ∧ v = .tuple #[] := by
  have hr0 := hr
  obtain ⟨A1, n1, c1, f1, A2, n2, c2, f2, A3, n3, c3, hp⟩ := hr
  refine HC_of_vc (args := [.pointer (some ⟨m, 0, none⟩), .int .u64 keep]) (base := 107) (cuts := []) (bigs := []) hm Try.func69 ?_
  rw [vcRlose]
  have hl1 := hp.now.len
  have hl3 := hp.waits.len
  have hle1 : x.now.length = f1.length := by rw [← hp.nowE, List.length_map]
  have hmlt := hp.lt
  refine ⟨_, rfl, _, reads_load scB (hp.rd rfl), br_intro (fun e => ?_) (fun e => ?_)⟩
  · exact ⟨by unfold off; rw [if_pos e]; exact hr0, Upd.refl _ _, rfl⟩
  refine ⟨_, rfl, A3, n3, c3, reads_load scRw (hp.rd rfl), ?_⟩
  refine ⟨fun n8 h9 => ∃ (j : Nat) (B : Option Addr) (n c : Nat) (g : List Fl), n8 = j ∧ j ≤ n3 ∧ RefP h9 m { x with safe := keepW keep 0 (x.waits.take j) x.safe } N A1 n1 c1 f1 B n c g A3 n3 c3 ∧ Upd (fun q => q = m) h h9, fun n8 _ => n3 - n8.toNat,
    ⟨0, A2, n2, c2, f2, rfl, Nat.zero_le _, by simpa [keepW] using hp, Upd.refl _ _⟩, ?_⟩
  rintro n8 h9 ⟨j, B, n, c, g, rfl, hj, p9, u9⟩
  have N9 : Nb N h9 := hN.mono u9.size
  refine br_intro (fun hlt => ?_) (fun hge => ?_)
  · have hlt := of_decide_eq_true hlt
    have hlt : j < n3 := by omega
    obtain ⟨w, p, hx, hA, rd⟩ := rw_at p9.waits hlt
    have hx : x.waits[j]? = some w := hx
    have hmem : w ∈ x.waits := List.mem_of_getElem? hx
    refine ⟨p, ⟨hA, by omega, by omega⟩, _, _, _, rd, svc_rw rfl ?_⟩
    have b15 := push_at h9 (rwBox w)
    have k15 := keep_push h9 (rwBox w)
    have p15 := p9.keep k15
    have hm9 := p9.lt
    have hstep := keepW_take keep x.waits 0 j x.safe w hx
    rw [Nat.zero_add] at hstep
    have okj : Ok { x with safe := keepW keep 0 (x.waits.take j) x.safe } := ok_keepW keep (x.waits.take j) 0 (G := x.safe) ok fun w hw => List.mem_of_mem_take hw
    have hlg : (keepW keep 0 (x.waits.take j) x.safe).length ≤ 2097152 := by
      have := len_keepW keep (x.waits.take j) 0 x.safe
      rw [List.length_take] at this; omega
    have hgl : g.length ≤ 2097152 := by have : (g.map Fl.pl).length ≤ 2097152 := by rw [p9.safeE]; exact hlg
                                        rwa [List.length_map] at this
    have hgn := p9.safe.len
    refine ⟨by decide, ?_, by decide, ?_⟩
    · have : (j : Int).tmod 64 = ((j % 64 : Nat) : Int) := by rw [Int.tmod_eq_emod_of_nonneg (by omega)]; omega
      rw [this, wrap_u64 (by omega) (by omega)]; omega
    rw [kept_eq2 hk j, wrap_i64 (by omega) (by omega)]
    refine br_intro (fun hkp => ?_) (fun hkp => ?_)
    · rw [if_pos hkp] at hstep
      have hi := ok.waits w hmem
      have hi1 : w.i ≤ 1073741824 := by have := pgs_le ok w.n; have := hi.1; omega
      -- what follows the look at the file, in whatever order
      have rest : ∀ {H : Heap} {b : Nat} {f : Fl}, H[b]? = some (flBox f) → H[h9.size]? = some (rwBox w) → Keep h9.size h9 H → FlOk N H f → f.n = w.n → f.pages = pgs (keepW keep 0 (x.waits.take j) x.safe) w.n →
          RefP H m { x with safe := keepW keep 0 (x.waits.take j) x.safe } N A1 n1 c1 f1 B n c g A3 n3 c3 →
          HC Try.prog 95 #[.agg #[.string f.n, .slice f.a f.len f.cap], .int .i64 w.i, .string w.p] H fun v45 h46 => ∃ (s47 : ByteArray) (a48 : Option Addr) (k49 k50 : Nat), v45 = .agg (Array.mk [.string s47, .slice a48 k49 k50]) ∧
            RefP h46 m { x with safe := keepW keep 0 (x.waits.take j) x.safe } N A1 n1 c1 f1 B n c g A3 n3 c3 ∧
            HC Try.prog 94 (Array.mk [.slice B n c, .agg (Array.mk [.string s47, .slice a48 k49 k50])]) h46 fun v51 h52 => ∃ (a53 : Option Addr) (k54 k55 : Nat), v51 = .slice a53 k54 k55 ∧ ∃ (p56 : Addr), some (⟨m, 0, none⟩ : Addr) = some p56 ∧
              SVC Try.prog (Instr.storeAt 60 (.pointer (some (p56.add 1))) (.slice a53 k54 k55)) h52 fun _ h58 =>
                (∃ (j' : Nat) (B : Option Addr) (n c : Nat) (g : List Fl), ((j : Int) + 1) = j' ∧ j' ≤ n3 ∧ RefP h58 m { x with safe := keepW keep 0 (x.waits.take j') x.safe } N A1 n1 c1 f1 B n c g A3 n3 c3 ∧ Upd (fun q => q = m) h h58) ∧
                n3 - ((j : Int) + 1).toNat < n3 - (j : Int).toNat := by
        intro H b f bf bw kH okf hfn hfp pH
        have hfl : f.len ≤ 1073741824 := by
          have h1 := okf.sl.len
          have h2 := okj.fewer w.n
          have h3 := pgs_le ok w.n
          have h4 : f.pages.length ≤ (pgs x.now w.n).length := by rw [hfp]; exact h2
          omega
        have NH : Nb N H := N9.mono kH.size
        refine (rset_spec NH okf (i := w.i) ⟨by omega, by omega⟩ hfl w.p).mono ?_
        rintro v h46 ⟨k46, g', rfl, hgn', okg, hgp⟩
        have p46 := pH.keep k46
        refine ⟨_, _, _, _, rfl, p46, (rput_spec (x := g') (NH.mono k46.size) p46.safe (by omega) okg).mono ?_⟩
        rintro v h52 ⟨k52, a53, k54, k55, rfl, fs52⟩
        have p52 := p46.keep k52
        refine ⟨_, _, _, rfl, _, rfl, svc_store_box szFs p52.box (by show 1 < 8; decide) rfl (one_slice _ _ _) fun h58 s58 b58 u58 => ⟨⟨j + 1, a53, k54, k55, goP Fl.n g' false g, rfl, hlt, ?_, ?_⟩, by omega⟩⟩
        · refine RefP.box' (y := { x with safe := keepW keep 0 (x.waits.take (j + 1)) x.safe }) hp.nm u58 b58 rfl p52.now p52.nowE fs52 ?_ p52.waits
          rw [goP_fs p52.safeE okj.safe]
          show _ = keepW keep 0 (x.waits.take (j + 1)) x.safe
          rw [hstep, hgn', hgp, hfn, hfp, Int.toNat_natCast]
          rfl
        · exact u9.trans (((kH.trans ((k46.mono kH.size).trans (k52.mono (Nat.le_trans kH.size k46.size)))).upd _).trans u58)
      refine ⟨fun H => RefP H m { x with safe := keepW keep 0 (x.waits.take j) x.safe } N A1 n1 c1 f1 B n c g A3 n3 c3 ∧ H[h9.size]? = some (rwBox w), ⟨p15, b15⟩, _, rfl, B, n, c, fun H hH => reads_load scFs (hH.1.rd rfl), w.n, fun H hH => wb_name hH.2, ?_, ?_, ?_⟩
      · refine (get_spec (c := c) p15.safe (by omega) w.n).mono ?_
        rintro v h25 ⟨k25, f, rfl, hfn, okf, hfp⟩
        have hfp : f.pages = pgs (keepW keep 0 (x.waits.take j) x.safe) w.n := by rw [hfp, p9.safeE]
        have kz := keep_push h25 (Obj.cells (Array.mk [Value.string (ByteArray.mk (Array.mk [])), Value.slice none 0 0]) 65)
        have p25 := p15.keep k25
        have b25 := k25.at b15 (by simp)
        refine ⟨_, _, _, _, _, rfl, ⟨p25.keep kz, kz.at b25 (at_lt b25)⟩, svc_fl rfl ?_⟩
        have kf := keep_push h25 (flBox f)
        have kk : Keep h9.size h9 (h25.push (flBox f)) := k15.trans ((k25.mono k15.size).trans (kf.mono (Nat.le_trans k15.size k25.size)))
        have p32 := p25.keep kf
        have b32 := kf.at b25 (at_lt b25)
        refine ⟨fun H => RefP H m { x with safe := keepW keep 0 (x.waits.take j) x.safe } N A1 n1 c1 f1 B n c g A3 n3 c3, p32, _, rfl, B, n, c, fun H hH => reads_load scFs (hH.rd rfl), _, _, _, _, fb_all (push_at h25 (flBox f)), _, wb_page b32, _, wb_data b32, ?_⟩
        exact rest (push_at h25 (flBox f)) b32 kk (okf.keep kf) hfn hfp p32
      · have kz := keep_push (h9.push (rwBox w)) (Obj.cells (Array.mk [Value.string (ByteArray.mk (Array.mk [])), Value.slice none 0 0]) 65)
        exact ⟨p15.keep kz, kz.at b15 (by simp)⟩
      · have kz := keep_push (h9.push (rwBox w)) (Obj.cells (Array.mk [Value.string (ByteArray.mk (Array.mk [])), Value.slice none 0 0]) 65)
        have pz := p15.keep kz
        have bz := push_at (h9.push (rwBox w)) (Obj.cells (Array.mk [Value.string (ByteArray.mk (Array.mk [])), Value.slice none 0 0]) 65)
        have bw := kz.at b15 (by simp)
        have fz : FsN (fun q => N q ∨ q = (h9.push (rwBox w)).size) ((h9.push (rwBox w)).push (Obj.cells (Array.mk [Value.string (ByteArray.mk (Array.mk [])), Value.slice none 0 0]) 65)) B n g :=
          ((p9.safe.turn (M := fun q => N q ∨ q = (h9.push (rwBox w)).size) fun q hq hM => hM.resolve_right fun e => by rw [e, Array.size_push] at hq; omega).keep k15).keep kz
        refine (get_spec (c := c) fz (by omega) w.n).mono ?_
        rintro v h60 ⟨k60, f, rfl, hfn, okf, hfp⟩
        have hfp : f.pages = pgs (keepW keep 0 (x.waits.take j) x.safe) w.n := by rw [hfp, p9.safeE]
        refine ⟨_, _, _, _, _, rfl, svc_fl_own (k60.at bz (at_lt bz)) rfl fun h67 s67 b67 u67 => ?_⟩
        have k0 : Keep h9.size h9 h60 := k15.trans ((kz.mono k15.size).trans (k60.mono (Nat.le_trans k15.size kz.size)))
        have hsz : (h9.push (rwBox w)).size = h9.size + 1 := by simp
        have kk : Keep h9.size h9 h67 := k0.trans (u67.keep k0.size fun q e => by omega)
        have p67 := p9.keep kk
        have b67w : h67[h9.size]? = some (rwBox w) := u67.at (k60.at bw (at_lt bw)) (by omega)
        have ok67 : FlOk N h67 f := (okf.upd (u67.mono fun q e => .inr e)).turn fun q _ hq => .inl hq
        refine ⟨fun H => RefP H m { x with safe := keepW keep 0 (x.waits.take j) x.safe } N A1 n1 c1 f1 B n c g A3 n3 c3, p67, _, rfl, B, n, c, fun H hH => reads_load scFs (hH.rd rfl), _, _, _, _, fb_all b67, _, wb_page b67w, _, wb_data b67w, ?_⟩
        exact rest b67 b67w kk ok67 hfn hfp p67
    · rw [if_neg (by rw [hkp]; decide)] at hstep
      refine ⟨⟨j + 1, B, n, c, g, rfl, hlt, by rw [hstep]; exact p15, u9.trans (k15.upd _)⟩, by dsimp only; omega⟩
  · have hge := of_decide_eq_false hge
    have hj' : j = n3 := by omega
    rw [List.take_of_length_le (by omega)] at p9
    clear hge hj hj'
    have okK : Ok { x with safe := keepW keep 0 x.waits x.safe } := ok_keepW keep x.waits 0 (G := x.safe) ok fun w h => h
    have hlK := len_keepW keep x.waits 0 x.safe
    generalize hK : keepW keep 0 x.waits x.safe = K at p9 okK hlK
    have hnl : (names x.now).length = n1 := by rw [len_names]; omega
    refine ⟨_, rfl, A1, n1, c1, reads_load scFs (cell_cells0 p9.box rfl), ?_⟩
    let I : Int → Heap → Prop := fun n100 h101 => ∃ (j : Nat) (B : Option Addr) (n c : Nat) (g : List Fl), n100 = j ∧ j ≤ n1 ∧ RefP h101 m { x with safe := ((names x.now).take j).foldl addN K } N A1 n1 c1 f1 B n c g A3 n3 c3 ∧ Upd (fun q => q = m) h h101
    let M : Int → Heap → Nat := fun n100 _ => n1 - n100.toNat
    refine ⟨I, M, ⟨0, B, n, c, g, rfl, Nat.zero_le _, by simpa using p9, u9⟩, ?_⟩
    clear p9 N9 u9 B n c g h9
    rintro n100 h101 ⟨j, B, n, c, g, rfl, hj, p9, u9⟩
    have N9 : Nb N h101 := hN.mono u9.size
    refine br_intro (fun hlt => ?_) (fun hge => ?_)
    · have hlt := of_decide_eq_true hlt
      have hlt : j < n1 := by omega
      obtain ⟨f, p, hx, hA, rd, okf⟩ := fs_at p9.now hlt
      refine ⟨p, ⟨hA, by omega, by omega⟩, _, _, _, _, rd, svc_fl rfl ?_⟩
      have b15 := push_at h101 (flBox f)
      have k15 := keep_push h101 (flBox f)
      have p15 := p9.keep k15
      have hm9 := p9.lt
      have hnm : (names x.now)[j]? = some f.n := by rw [← hp.nowE, names_pl, List.getElem?_map, hx]; rfl
      have htk : (names x.now).take (j + 1) = (names x.now).take j ++ [f.n] := by
        obtain ⟨hk1, e⟩ := List.getElem?_eq_some_iff.1 hnm
        rw [List.take_succ_eq_append_getElem hk1, e]
      have hstep : ((names x.now).take (j + 1)).foldl addN K = addN (((names x.now).take j).foldl addN K) f.n := by rw [htk, List.foldl_append]; rfl
      have okj : SrtF (((names x.now).take j).foldl addN K) := srt_addAll _ okK.safe
      have hlg : (((names x.now).take j).foldl addN K).length ≤ 4194304 := by
        have := len_addN ((names x.now).take j) K
        rw [List.length_take] at this; omega
      have hgl : g.length ≤ 4194304 := by
        have : (g.map Fl.pl).length ≤ 4194304 := by rw [p9.safeE]; exact hlg
        rwa [List.length_map] at this
      have hgn := p9.safe.len
      rw [wrap_i64 (by omega) (by omega)]
      have rest : ∀ {H : Heap}, H[h101.size]? = some (flBox f) → Keep h101.size h101 H → RefP H m { x with safe := ((names x.now).take j).foldl addN K } N A1 n1 c1 f1 B n c g A3 n3 c3 →
          br (!(mGet (((names x.now).take j).foldl addN K) f.n).isSome)
            (∃ (p126 : Addr), some (⟨m, 0, none⟩ : Addr) = some p126 ∧ ∃ (a127 : Option Addr) (k128 k129 : Nat), Reads Try.prog (Instr.loadAt 60 (.pointer (some (p126.add 1)))) H (.slice a127 k128 k129) ∧
              ∃ (s130 : ByteArray), Reads Try.prog (Instr.loadAt 9 (.pointer (some ⟨h101.size, 0, none⟩))) H (.string s130) ∧
              HC Try.prog 94 (Array.mk [.slice a127 k128 k129, .agg (Array.mk [.string s130, .slice none 0 0])]) H fun v131 h132 => ∃ (a133 : Option Addr) (k134 k135 : Nat), v131 = .slice a133 k134 k135 ∧ ∃ (p136 : Addr), some (⟨m, 0, none⟩ : Addr) = some p136 ∧
                SVC Try.prog (Instr.storeAt 60 (.pointer (some (p136.add 1))) (.slice a133 k134 k135)) h132 fun _ h138 => I ((j : Int) + 1) h138 ∧ M ((j : Int) + 1) h138 < M j h101)
            (I ((j : Int) + 1) H ∧ M ((j : Int) + 1) H < M j h101) := by
        intro H bf kH pH
        have hM : ∀ h, M ((j : Int) + 1) h < M j h101 := fun h => by show n1 - ((j : Int) + 1).toNat < n1 - (j : Int).toNat; omega
        refine br_intro (fun e => ?_) (fun e => ?_)
        · have hnone : mGet (((names x.now).take j).foldl addN K) f.n = none := by cases h0 : mGet (((names x.now).take j).foldl addN K) f.n with | none => rfl | some l => rw [h0] at e; cases e
          refine ⟨_, rfl, B, n, c, reads_load scFs (pH.rd rfl), _, fb_name bf, (rput_spec (x := ⟨f.n, none, 0, 0, []⟩) (N9.mono kH.size) pH.safe (by omega) ⟨SlN.nil _ _ _, Nat.le_refl _⟩).mono ?_⟩
          rintro v h132 ⟨k132, a133, k134, k135, rfl, fs132⟩
          have p132 := pH.keep k132
          refine ⟨_, _, _, rfl, _, rfl, svc_store_box szFs p132.box (by show 1 < 8; decide) rfl (one_slice _ _ _) fun h138 s138 b138 u138 => ⟨⟨j + 1, a133, k134, k135, goP Fl.n ⟨f.n, none, 0, 0, []⟩ false g, rfl, hlt, ?_, ?_⟩, hM h138⟩⟩
          · refine RefP.box' (y := { x with safe := ((names x.now).take (j + 1)).foldl addN K }) hp.nm u138 b138 rfl p132.now p132.nowE fs132 ?_ p132.waits
            rw [goP_fs p132.safeE okj]
            show _ = ((names x.now).take (j + 1)).foldl addN K
            rw [hstep, addN_none hnone]
          · exact u9.trans (((kH.trans (k132.mono kH.size)).upd _).trans u138)
        · have hsome : (mGet (((names x.now).take j).foldl addN K) f.n).isSome = true := by cases h0 : (mGet (((names x.now).take j).foldl addN K) f.n).isSome with | true => rfl | false => rw [h0] at e; cases e
          exact ⟨⟨j + 1, B, n, c, g, rfl, hlt, by rw [hstep, addN_some hsome]; exact pH, u9.trans (kH.upd _)⟩, hM H⟩
      refine ⟨fun H => RefP H m { x with safe := ((names x.now).take j).foldl addN K } N A1 n1 c1 f1 B n c g A3 n3 c3 ∧ H[h101.size]? = some (flBox f), ⟨p15, b15⟩, _, rfl, B, n, c, fun H hH => reads_load scFs (hH.1.rd rfl), f.n, fun H hH => fb_name hH.2, ?_, ?_, ?_⟩
      · refine (get_spec (c := c) p15.safe (by omega) f.n).mono ?_
        rintro v h25 ⟨k25, f', rfl, hfn, okf', hfp⟩
        rw [p9.safeE]
        have kz := keep_push h25 (Obj.cells (Array.mk [Value.string (ByteArray.mk (Array.mk [])), Value.slice none 0 0]) 65)
        have p25 := p15.keep k25
        have b25 := k25.at b15 (by simp)
        refine ⟨_, _, _, _, _, rfl, ⟨p25.keep kz, kz.at b25 (at_lt b25)⟩, svc_fl rfl ?_⟩
        have kf := keep_push h25 (flBox f')
        exact rest (kf.at b25 (at_lt b25)) (k15.trans ((k25.mono k15.size).trans (kf.mono (Nat.le_trans k15.size k25.size)))) (p25.keep kf)
      · have kz := keep_push (h101.push (flBox f)) (Obj.cells (Array.mk [Value.string (ByteArray.mk (Array.mk [])), Value.slice none 0 0]) 65)
        exact ⟨p15.keep kz, kz.at b15 (by simp)⟩
      · have kz := keep_push (h101.push (flBox f)) (Obj.cells (Array.mk [Value.string (ByteArray.mk (Array.mk [])), Value.slice none 0 0]) 65)
        have pz := p15.keep kz
        have bz := push_at (h101.push (flBox f)) (Obj.cells (Array.mk [Value.string (ByteArray.mk (Array.mk [])), Value.slice none 0 0]) 65)
        have bw := kz.at b15 (by simp)
        refine (get_spec (c := c) pz.safe (by omega) f.n).mono ?_
        rintro v h60 ⟨k60, f', rfl, hfn, okf', hfp⟩
        rw [p9.safeE]
        refine ⟨_, _, _, _, _, rfl, svc_fl_own (k60.at bz (at_lt bz)) rfl fun h67 s67 b67 u67 => ?_⟩
        have k0 : Keep h101.size h101 h60 := k15.trans ((kz.mono k15.size).trans (k60.mono (Nat.le_trans k15.size kz.size)))
        have hsz : (h101.push (flBox f)).size = h101.size + 1 := by simp
        have kk : Keep h101.size h101 h67 := k0.trans (u67.keep k0.size fun q e => by omega)
        exact rest (u67.at (k60.at bw (at_lt bw)) (by omega)) kk (p9.keep kk)
    · have hge := of_decide_eq_false hge
      have hj' : j = n1 := by omega
      have hS : ((names x.now).take j).foldl addN K = offS keep x := by rw [hj', ← hnl, List.take_length, ← hK]; rfl
      rw [hS] at p9
      refine ⟨_, rfl, B, n, c, reads_load scFs (p9.rd rfl), _, rfl, ?_⟩
      have e0 : (⟨m, 0, none⟩ : Addr) = (⟨m, 0, none⟩ : Addr).add 0 := rfl
      rw [e0]
      refine svc_store_box szFs p9.box (by show 0 < 8; decide) rfl (one_slice _ _ _) fun ha sa ba ua => ?_
      refine ⟨_, rfl, svc_store_box szRw ba (by show 2 < 8; decide) rfl (one_slice _ _ _) fun hb sb bb ub => ⟨_, rfl, svc_store_box szB bb (by show 4 < 8; decide) rfl (one_bool _) fun hc sc bc uc => ⟨_, rfl, svc_store_box szI bc (by show 6 < 8; decide) rfl (one_int _ _) fun hd sd bd ud => ?_⟩⟩⟩
      have uu := ((ua.trans ub).trans uc).trans ud
      have eo : off keep x = { x with now := offS keep x, safe := offS keep x, waits := [], down := true, fuse := 0 } := by unfold off; rw [if_neg (by rw [e]; decide)]
      refine ⟨⟨B, n, c, g, B, n, c, g, none, 0, 0, ?_⟩, u9.trans uu, rfl⟩
      rw [eo]
      exact RefP.box' hp.nm uu bd rfl p9.safe p9.safeE p9.safe p9.safeE (SlN.nil _ _ _)
end Go.Proofs.Ytembbemljejjbaa
set_option linter.unusedVariables false
set_option linter.unusedSimpArgs false
set_option maxRecDepth 100000
namespace Go.Proofs.Ytembbemljejjbaa
open Go Go.Vc Go.Proofs Go.Dk

/-- not too many. -/
structure Sz (x : D) : Prop where
  now : x.now.length ≤ 1048000
  safe : x.safe.length ≤ 1048000
  waits : x.waits.length ≤ 1048000
theorem Sz.act {x : D} (h : Sz x) : Sz (act x) := ⟨h.now, h.safe, h.waits⟩
section
variable {h : Heap} {m : Nat} {x : D} {N : Nat → Prop}
theorem fs_len {fs : List Fl} {F : Fs} (he : fs.map Fl.pl = F) : fs.length = F.length := by rw [← he, List.length_map]
theorem keep_eq (x : D) : (act x).keep = x.keep := rfl
set_option maxHeartbeats 1000000 in
theorem rmay_spec (hN : Nb N h) (hr : RefAt h m x N) (ok : Ok x) (sz : Sz x) (s : Str) :
    HC Try.prog 96 #[.pointer (some ⟨m, 0, none⟩), .string s] h fun v h' => RefAt h' m (may x s).2 N ∧ Upd (fun q => q = m) h h' ∧ v = .int .i64 (may x s).1 := by
  obtain ⟨A1, n1, c1, f1, A2, n2, c2, f2, A3, n3, c3, hp⟩ := hr
  refine HC_of_vc (args := [.pointer (some ⟨m, 0, none⟩), .string s]) (base := 30) (cuts := []) (bigs := []) hm Try.func96 ?_
  rw [vcRmay]
  have hl1 := hp.now.len
  have hle := fs_len hp.nowE
  have hb1 := sz.now
  refine ⟨_, rfl, A1, n1, c1, reads_load scFs (cell_cells0 hp.box rfl), (get_spec (c := c1) hp.now (by omega) s).mono ?_⟩
  rintro v h5 ⟨k5, f, rfl, hfn, okf, hfp⟩
  rw [hp.nowE]
  refine ⟨_, _, _, _, _, rfl, svc_fl rfl ?_⟩
  have k12 := keep_push h5 (flBox f)
  have kk : Keep h.size h (h5.push (flBox f)) := k5.trans (k12.mono k5.size)
  have p12 := hp.keep kk
  refine ⟨_, rfl, _, reads_load scB (p12.rd rfl), br_intro (fun e => ?_) (fun e => ?_)⟩
  · have : may x s = (8, x) := by unfold may; rw [if_pos e]
    rw [this]
    exact ⟨⟨_, _, _, _, _, _, _, _, _, _, _, p12⟩, kk.upd _, rfl⟩
  refine br_intro (fun e2 => ?_) (fun e2 => ?_)
  · have hg : mGet x.now s = none := by cases h0 : mGet x.now s with | none => rfl | some l => rw [h0] at e2; cases e2
    have : may x s = (5, x) := by unfold may; rw [if_neg (by rw [e]; decide), hg]
    rw [this]
    exact ⟨⟨_, _, _, _, _, _, _, _, _, _, _, p12⟩, kk.upd _, rfl⟩
  have hg : may x s = ended x := by
    unfold may; rw [if_neg (by rw [e]; decide)]
    cases h0 : mGet x.now s with
    | none => rw [h0] at e2; cases e2
    | some l => rfl
  rw [hg]
  refine (ract_spec ⟨_, _, _, _, _, _, _, _, _, _, _, p12⟩ ok).mono ?_
  rintro v h16 ⟨r16, u16, rfl⟩
  refine ⟨_, rfl, br_intro (fun e3 => ?_) (fun e3 => ?_)⟩
  · obtain ⟨B1, m1, d1, g1, B2, m2, d2, g2, B3, m3, d3, p16⟩ := r16
    refine ⟨_, rfl, x.keep, reads_load scU (p16.rd rfl), (rlose_spec (hN.mono (Nat.le_trans kk.size u16.size)) ⟨_, _, _, _, _, _, _, _, _, _, _, p16⟩ (ok_act ok) ok.keep (Nat.le_trans sz.now (by decide)) (Nat.le_trans sz.safe (by decide)) (Nat.le_trans sz.waits (by decide))).mono ?_⟩
    rintro v h21 ⟨r21, u21, rfl⟩
    have : ended x = (8, off (act x).keep (act x)) := by unfold ended; rw [if_pos e3]
    rw [this]
    exact ⟨rfl, r21, ((kk.upd _).trans u16).trans u21, rfl⟩
  · have : ended x = (0, act x) := by unfold ended; rw [if_neg (by rw [e3]; decide)]
    rw [this]
    exact ⟨r16, (kk.upd _).trans u16, rfl⟩
set_option maxHeartbeats 2000000 in
theorem rwrite_spec (hN : Nb N h) (hr : RefAt h m x N) (ok : Ok x) (sz : Sz x) (s : Str) (i : Int) (b : Str) :
    HC Try.prog 63 #[.pointer (some ⟨m, 0, none⟩), .string s, .int .i64 i, .string b] h fun v h' => RefAt h' m (Dk.write x s i b).2 N ∧ Upd (fun q => q = m) h h' ∧ v = .int .i64 (Dk.write x s i b).1 := by
  obtain ⟨A1, n1, c1, f1, A2, n2, c2, f2, A3, n3, c3, hp⟩ := hr
  refine HC_of_vc (args := [.pointer (some ⟨m, 0, none⟩), .string s, .int .i64 i, .string b]) (base := 91) (cuts := [10]) (bigs := []) hm Try.func63 ?_
  rw [vcRwrite]
  have hl1 := hp.now.len
  have hle := fs_len hp.nowE
  have hb1 := sz.now
  refine ⟨_, rfl, A1, n1, c1, reads_load scFs (cell_cells0 hp.box rfl), (get_spec (c := c1) hp.now (by omega) s).mono ?_⟩
  rintro v h5 ⟨k5, f, rfl, hfn, okf, hfp⟩
  rw [hp.nowE] at hfp
  refine ⟨_, _, _, _, _, rfl, svc_fl rfl ?_⟩
  have k12 := keep_push h5 (flBox f)
  have kk : Keep h.size h (h5.push (flBox f)) := k5.trans (k12.mono k5.size)
  have p12 := hp.keep kk
  have b12 := push_at h5 (flBox f)
  have hfl := okf.sl.len
  have hlen : f.len = (pgs x.now s).length := by rw [← hfp]; exact hfl.symm
  have same : ∀ e : Int, Dk.write x s i b = (e, x) → ∀ {H : Heap}, Keep h.size h H → RefAt H m (Dk.write x s i b).2 N ∧ Upd (fun q => q = m) h H ∧ Value.int .i64 e = .int .i64 (Dk.write x s i b).1 := fun e he H kH => by
    rw [he]; exact ⟨⟨_, _, _, _, _, _, _, _, _, _, _, hp.keep kH⟩, kH.upd _, rfl⟩
  refine ⟨_, rfl, _, reads_load scB (p12.rd rfl), br_intro (fun e => ?_) (fun e => ?_)⟩
  · exact same 8 (by unfold Dk.write; rw [if_pos e]) kk
  have hd : ¬ x.down = true := by rw [e]; decide
  refine br_intro (fun e1 => ?_) (fun e1 => ?_)
  · have e1 := of_decide_eq_true e1
    exact same 3 (by unfold Dk.write; rw [if_neg hd, if_pos (by omega)]) kk
  have e1 := of_decide_eq_false e1
  have hsz : ¬ 512 < b.size := by omega
  refine ⟨_, _, _, fun _ => fb_pages b12, br_intro (fun e2 => ?_) (fun e2 => ?_)⟩
  · have e2 : i < 0 ∨ (f.len : Int) < i := by simpa using e2
    exact same 1 (by unfold Dk.write; rw [if_neg hd, if_neg hsz, if_pos (by rw [← hlen]; exact e2)]) kk
  have e2 : ¬ (i < 0 ∨ (f.len : Int) < i) := by simpa using e2
  have h2 : ¬ (i < 0 ∨ ((pgs x.now s).length : Int) < i) := by rw [← hlen]; exact e2
  have h0 : 0 ≤ i := by omega
  obtain ⟨i, rfl⟩ := Int.eq_ofNat_of_zero_le h0
  refine ⟨fun _ H => Keep h.size h H ∧ H[h5.size]? = some (flBox f) ∧ FlOk N H f ∧ ¬ ((i : Int) = (pgs x.now s).length ∧ free x < 1), ⟨_, _, _, fb_pages b12, br_intro (fun e3 => ?_) (fun e3 => ?_)⟩, ?_⟩
  · have e3 := of_decide_eq_true e3
    refine (rfree_spec ⟨_, _, _, _, _, _, _, _, _, _, _, p12⟩ ok (by omega)).mono ?_
    rintro v h23 ⟨k23, rfl⟩
    have k3 := kk.trans (k23.mono kk.size)
    have h1 := ok.tot
    refine ⟨_, rfl, br_intro (fun e4 => ?_) (fun e4 => ?_)⟩
    · have e4 : free x = 0 := by simpa using e4
      exact same 7 (by unfold Dk.write; rw [if_neg hd, if_neg hsz, if_neg h2, if_pos ⟨by omega, by omega⟩]) k3
    · have e4 : free x ≠ 0 := by simpa using e4
      exact ⟨k3, k23.at b12 (at_lt b12), (okf.keep k12).keep k23, fun hh => by have := hh.2; unfold free at this e4; omega⟩
  · have e3 := of_decide_eq_false e3
    exact ⟨kk, b12, okf.keep k12, fun hh => e3 (by omega)⟩
  have hk5 := k5.size
  clear same kk k12 p12 b12 okf k5
  rintro n25 h26 ⟨k26, b26, okf, hfree⟩
  have p26 := hp.keep k26
  have h5lt := at_lt b26
  refine (ract_spec ⟨_, _, _, _, _, _, _, _, _, _, _, p26⟩ ok).mono ?_
  rintro v h28 ⟨r28, u28, rfl⟩
  have hmlt := hp.lt
  obtain ⟨B1, m1, d1, g1, B2, m2, d2, g2, B3, m3, d3, p28⟩ := r28
  have N28 : Nb N h28 := hN.mono (Nat.le_trans k26.size u28.size)
  have b28 : h28[h5.size]? = some (flBox f) := u28.at b26 (by omega)
  have ok28 : FlOk N h28 f := okf.upd (u28.mono fun q e => e ▸ hp.nm)
  have ew : IntKind.i64.wrap (512 - (b.size : Int)) = ((512 - b.size : Nat) : Int) := by rw [wrap_i64 (by omega) (by omega)]; omega
  refine ⟨_, rfl, ?_⟩
  rw [ew]
  refine svc_noughts (n := 512 - b.size) (by omega) fun h31 k31 z31 sl31 => ⟨_, _, _, rfl, _, reads_string undBs undB undS sl31, ?_⟩
  rw [pad_of, page_of]
  have p31 := p28.keep k31
  refine ⟨by show ((b.size + (512 - b.size) : Nat) : Int) ≤ 9223372036854775807; omega, fun H => RefP H m (act x) N B1 m1 d1 g1 B2 m2 d2 g2 B3 m3 d3, p31, _, rfl, B1, m1, d1, fun H hH => reads_load scFs (cell_cells0 hH.box rfl), _, _, _, _, fb_all (k31.at b28 (at_lt b28)), ?_⟩
  have N31 : Nb N h31 := N28.mono k31.size
  have h4096 := pgs_le ok s
  refine (rset_spec N31 (ok28.keep k31) (i := i) ⟨by omega, by omega⟩ (by omega) (pad b)).mono ?_
  rintro v h47 ⟨k47, g, rfl, hgn, okg, hgp⟩
  have p47 := p31.keep k47
  have hl28 := p28.now.len
  have hle28 := fs_len p28.nowE
  have e28 : (act x).now = x.now := rfl
  rw [e28] at hle28
  refine ⟨_, _, _, _, rfl, p47, (rput_spec (x := g) (N31.mono k47.size) p47.now (by omega) okg).mono ?_⟩
  rintro v h53 ⟨k53, a54, k55, c56, rfl, fs53⟩
  have p53 := p47.keep k53
  refine ⟨_, _, _, rfl, _, rfl, ?_⟩
  show SVC _ (Instr.storeAt _ (.pointer (some ((⟨m, 0, none⟩ : Addr).add 0))) _) _ _
  refine svc_store_box szFs p53.box (by show 0 < 8; decide) rfl (one_slice _ _ _) fun h59 s59 b59 u59 => ?_
  have hput : (goP Fl.n g false g1).map Fl.pl = put s (setP (pgs x.now s) i (pad b)) x.now := by
    rw [goP_fs p53.nowE ok.now, hgn, hgp, hfn, hfp, Int.toNat_natCast]; rfl
  let y : D := { act x with now := put s (setP (pgs x.now s) i (pad b)) x.now }
  have p59 : RefP h59 m y N a54 k55 c56 (goP Fl.n g false g1) B2 m2 d2 g2 B3 m3 d3 := RefP.box' (y := y) hp.nm u59 b59 rfl fs53 hput p53.safe p53.safeE p53.waits
  refine svc_empty_of app_rw fun ow => ⟨_, _, _, rfl, _, rfl, ?_⟩
  have k61 := keep_push h59 (.cells #[] 141 (0, 0))
  have p61 := p59.keep k61
  have hl3 := p61.waits.len
  have e61 : y.waits = x.waits := rfl
  rw [e61] at hl3
  have hb3 := sz.waits
  refine ⟨B3, m3, d3, reads_load scRw (p61.rd rfl), svc_append app_rw ow (by rw [Array.size_push]; omega) p61.waits.sl (by omega) fun a71 c73 h70 o70 u70 bl70 => ⟨_, _, _, rfl, ?_⟩⟩
  rw [Nat.zero_add, List.nil_append] at o70
  rw [Nat.zero_add]
  have ne70 : ∀ q, blk (some ⟨h59.size, 0, none⟩) q → h59.size ≤ q := fun q hq => (ow.block q hq).1
  have k70 : Keep h59.size h59 h70 := k61.trans (u70.keep (by rw [Array.size_push]; omega) fun q hq => ne70 q hq)
  refine svc_append1 (x := ⟨s, i, pad b⟩) app_rw o70 k70.size (bs_rw ⟨s, i, pad b⟩) (by omega) fun a81 c83 h80 o80 u80 bl80 => ?_
  have ne80 : ∀ q, blk a71 q → h59.size ≤ q := fun q hq => (o70.block q hq).1
  have k80 : Keep h59.size h59 h80 := k70.trans (u80.keep k70.size fun q hq => ne80 q hq)
  have p80 := p59.keep k80
  refine ⟨_, rfl, svc_store_box szRw p80.box (by show 2 < 8; decide) rfl (one_slice _ _ _) fun h86 s86 b86 u86 => ?_⟩
  let z : D := { act x with now := put s (setP (pgs x.now s) i (pad b)) x.now, waits := x.waits ++ [⟨s, i, pad b⟩] }
  have hmN := hp.nm
  have h59m : ∀ q, N q → q < h59.size := (N31.mono (Nat.le_trans k47.size (Nat.le_trans k53.size (by omega))))
  have p86 : RefP h86 m z N a54 k55 c56 (goP Fl.n g false g1) B2 m2 d2 g2 a81 (m3 + 1) c83 := RefP.box' (y := z) hp.nm u86 b86 rfl p80.now hput p80.safe p80.safeE (o80.sln h59m)
  have uu : Upd (fun q => q = m) h h86 := ((k26.upd _).trans (u28.trans ((k31.upd _).trans ((k47.upd _).trans ((k53.upd _).trans (u59.trans ((k80.upd _).trans u86)))))))
  have okz : Ok z := ok_write ok (s := s) (b := b) (k := i) (by omega) (by omega) fun e3 => by
    have h3 : ¬ free x < 1 := fun h3 => hfree ⟨by omega, h3⟩
    omega
  have hw : Dk.write x s i b = if goes x then (8, off z.keep z) else (0, z) := by
    unfold Dk.write
    rw [if_neg hd, if_neg hsz, if_neg h2, if_neg hfree]
    rfl
  have hbn := sz.now
  refine br_intro (fun e => ?_) (fun e => ?_)
  · rw [hw, if_pos e]
    have l1 := len_put s (setP (pgs x.now s) i (pad b)) x.now
    refine ⟨_, rfl, x.keep, reads_load scU (p86.rd rfl), (rlose_spec (hN.mono uu.size) ⟨_, _, _, _, _, _, _, _, _, _, _, p86⟩ okz ok.keep (by show (put _ _ _).length ≤ _; omega) (Nat.le_trans sz.safe (by decide)) (by show (x.waits ++ [_]).length ≤ _; simp; omega)).mono ?_⟩
    rintro v h90 ⟨r90, u90, rfl⟩
    exact ⟨rfl, r90, uu.trans u90, rfl⟩
  · rw [hw, if_neg (by rw [e]; decide)]
    exact ⟨⟨_, _, _, _, _, _, _, _, _, _, _, p86⟩, uu, rfl⟩
end
end Go.Proofs.Ytembbemljejjbaa
set_option linter.unusedVariables false
set_option linter.unusedSimpArgs false
set_option maxRecDepth 100000
namespace Go.Proofs.Ytembbemljejjbaa
open Go Go.Vc Go.Proofs Go.Dk

theorem may_ne {x : D} {s : Str} (h : (may x s).1 ≠ 0) : ∀ {α : Type} (a b : α), (if (may x s).1 = 0 then a else b) = b := fun a b => if_neg h
theorem sync_zero {x : D} {s : Str} (h : (may x s).1 = 0) : Dk.sync x s = (0, { act x with safe := put s (pgs x.now s) x.safe, waits := drop x.waits s 0 }) := by
  have hm := (may_zero h).1
  have e : may x s = (0, act x) := Prod.ext h hm
  unfold sync; rw [e]; rfl
theorem sync_ne {x : D} {s : Str} (h : (may x s).1 ≠ 0) : Dk.sync x s = may x s := by
  unfold sync
  generalize may x s = r at h ⊢
  obtain ⟨e, d⟩ := r
  exact if_neg h
theorem remove_zero {x : D} {s : Str} (h : (may x s).1 = 0) : Dk.remove x s = (0, { act x with now := del s x.now, safe := del s x.safe, waits := drop x.waits s 0 }) := by
  have e : may x s = (0, act x) := Prod.ext h (may_zero h).1
  unfold remove; rw [e]; rfl
theorem remove_ne {x : D} {s : Str} (h : (may x s).1 ≠ 0) : Dk.remove x s = may x s := by
  unfold remove
  generalize may x s = r at h ⊢
  obtain ⟨e, d⟩ := r
  exact if_neg h
theorem del_pl (s : Str) (fs : List Fl) : (fs.filter fun f => decide (f.n ≠ s)).map Fl.pl = del s (fs.map Fl.pl) := by
  unfold del
  rw [List.filter_map]
  rfl
section
variable {h : Heap} {m : Nat} {x : D} {N : Nat → Prop}
set_option maxHeartbeats 1000000 in
theorem rsync_spec (hN : Nb N h) (hr : RefAt h m x N) (ok : Ok x) (sz : Sz x) (s : Str) :
    HC Try.prog 65 #[.pointer (some ⟨m, 0, none⟩), .string s] h fun v h' => RefAt h' m (Dk.sync x s).2 N ∧ Upd (fun q => q = m) h h' ∧ v = .int .i64 (Dk.sync x s).1 := by
  refine HC_of_vc (args := [.pointer (some ⟨m, 0, none⟩), .string s]) (base := 35) (cuts := []) (bigs := []) hm Try.func65 ?_
  rw [vcRsync]
  have hmN := hr.nm
  refine (rmay_spec hN hr ok sz s).mono ?_
  rintro v h1 ⟨r1, u1, rfl⟩
  refine ⟨_, rfl, br_intro (fun e => ?_) (fun e => ?_)⟩
  · have e : (may x s).1 = 0 := by simpa using e
    rw [(may_zero e).1] at r1
    rw [sync_zero e, e]
    obtain ⟨A1, n1, c1, f1, A2, n2, c2, f2, A3, n3, c3, hp⟩ := r1
    have N1 : Nb N h1 := hN.mono u1.size
    have hl1 := hp.now.len
    have hle : f1.length = x.now.length := fs_len hp.nowE
    have hl2 := hp.safe.len
    have hle2 : f2.length = x.safe.length := fs_len hp.safeE
    have hb1 := sz.now
    have hb2 := sz.safe
    have hmlt := hp.lt
    refine ⟨_, rfl, A1, n1, c1, reads_load scFs (cell_cells0 hp.box rfl), (get_spec (c := c1) hp.now (by omega) s).mono ?_⟩
    rintro v h8 ⟨k8, f, rfl, hfn, okf, hfp⟩
    rw [hp.nowE] at hfp
    refine ⟨_, _, _, _, _, rfl, svc_fl rfl ?_⟩
    have k15 := keep_push h8 (flBox f)
    have kk : Keep h1.size h1 (h8.push (flBox f)) := k8.trans (k15.mono k8.size)
    have p15 := hp.keep kk
    refine ⟨_, rfl, A2, n2, c2, reads_load scFs (p15.rd rfl), _, _, _, _, fb_all (push_at h8 (flBox f)), (rput_spec (x := f) (N1.mono kk.size) p15.safe (by omega) (okf.keep k15)).mono ?_⟩
    rintro v h25 ⟨k25, a26, k27, c28, rfl, fs25⟩
    have p25 := p15.keep k25
    refine ⟨_, _, _, rfl, _, rfl, svc_store_box szFs p25.box (by show 1 < 8; decide) rfl (one_slice _ _ _) fun h31 s31 b31 u31 => ?_⟩
    have hput : (goP Fl.n f false f2).map Fl.pl = put s (pgs x.now s) x.safe := by rw [goP_fs p25.safeE ok.safe, hfn, hfp]; rfl
    have p31 : RefP h31 m { act x with safe := put s (pgs x.now s) x.safe } N A1 n1 c1 f1 a26 k27 c28 (goP Fl.n f false f2) A3 n3 c3 :=
      RefP.box' (y := { act x with safe := put s (pgs x.now s) x.safe }) hmN u31 b31 rfl p25.now p25.nowE fs25 hput p25.waits
    have uu : Upd (fun q => q = m) h h31 := u1.trans (((kk.trans (k25.mono kk.size)).upd _).trans u31)
    refine (rdrop_spec (hN.mono uu.size) p31 (Nat.le_trans sz.waits (by decide)) s 0).mono ?_
    rintro v h33 ⟨⟨A4, n4, c4, p33, _⟩, u33, rfl⟩
    exact ⟨rfl, ⟨_, _, _, _, _, _, _, _, _, _, _, p33⟩, uu.trans u33, rfl⟩
  · have e : (may x s).1 ≠ 0 := by simpa using e
    rw [sync_ne e]
    exact ⟨r1, u1, rfl⟩
set_option maxHeartbeats 1000000 in
theorem rremove_spec (hN : Nb N h) (hr : RefAt h m x N) (ok : Ok x) (sz : Sz x) (s : Str) :
    HC Try.prog 68 #[.pointer (some ⟨m, 0, none⟩), .string s] h fun v h' => RefAt h' m (Dk.remove x s).2 N ∧ Upd (fun q => q = m) h h' ∧ v = .int .i64 (Dk.remove x s).1 := by
  refine HC_of_vc (args := [.pointer (some ⟨m, 0, none⟩), .string s]) (base := 33) (cuts := []) (bigs := []) hm Try.func68 ?_
  rw [vcRremove]
  have hmN := hr.nm
  refine (rmay_spec hN hr ok sz s).mono ?_
  rintro v h1 ⟨r1, u1, rfl⟩
  refine ⟨_, rfl, br_intro (fun e => ?_) (fun e => ?_)⟩
  · have e : (may x s).1 = 0 := by simpa using e
    rw [(may_zero e).1] at r1
    rw [remove_zero e, e]
    obtain ⟨A1, n1, c1, f1, A2, n2, c2, f2, A3, n3, c3, hp⟩ := r1
    have N1 : Nb N h1 := hN.mono u1.size
    have hl1 := hp.now.len
    have hle : f1.length = x.now.length := fs_len hp.nowE
    have hl2 := hp.safe.len
    have hle2 : f2.length = x.safe.length := fs_len hp.safeE
    have hb1 := sz.now
    have hb2 := sz.safe
    refine ⟨_, rfl, A1, n1, c1, reads_load scFs (cell_cells0 hp.box rfl), (without_spec (c := c1) N1 hp.now (by omega) s).mono ?_⟩
    rintro v h8 ⟨k8, a9, k10, c11, rfl, fs8⟩
    have p8 := hp.keep k8
    refine ⟨_, _, _, rfl, _, rfl, ?_⟩
    show SVC _ (Instr.storeAt _ (.pointer (some ((⟨m, 0, none⟩ : Addr).add 0))) _) _ _
    refine svc_store_box szFs p8.box (by show 0 < 8; decide) rfl (one_slice _ _ _) fun h14 s14 b14 u14 => ?_
    have hdel : (f1.filter fun f => decide (f.n ≠ s)).map Fl.pl = del s x.now := by rw [del_pl, p8.nowE]; rfl
    have p14 : RefP h14 m { act x with now := del s x.now } N a9 k10 c11 (f1.filter fun f => decide (f.n ≠ s)) A2 n2 c2 f2 A3 n3 c3 :=
      RefP.box' (y := { act x with now := del s x.now }) hmN u14 b14 rfl fs8 hdel p8.safe p8.safeE p8.waits
    have uu : Upd (fun q => q = m) h h14 := u1.trans ((k8.upd _).trans u14)
    refine ⟨_, rfl, A2, n2, c2, reads_load scFs (p14.rd rfl), (without_spec (c := c2) (hN.mono uu.size) p14.safe (by omega) s).mono ?_⟩
    rintro v h20 ⟨k20, a21, k22, c23, rfl, fs20⟩
    have p20 := p14.keep k20
    refine ⟨_, _, _, rfl, _, rfl, svc_store_box szFs p20.box (by show 1 < 8; decide) rfl (one_slice _ _ _) fun h26 s26 b26 u26 => ?_⟩
    have hdel2 : (f2.filter fun f => decide (f.n ≠ s)).map Fl.pl = del s x.safe := by rw [del_pl, p20.safeE]; rfl
    have p26 : RefP h26 m { act x with now := del s x.now, safe := del s x.safe } N a9 k10 c11 (f1.filter fun f => decide (f.n ≠ s)) a21 k22 c23 (f2.filter fun f => decide (f.n ≠ s)) A3 n3 c3 :=
      RefP.box' (y := { act x with now := del s x.now, safe := del s x.safe }) hmN u26 b26 rfl p20.now p20.nowE fs20 hdel2 p20.waits
    have uu2 : Upd (fun q => q = m) h h26 := uu.trans ((k20.upd _).trans u26)
    refine (rdrop_spec (hN.mono uu2.size) p26 (Nat.le_trans sz.waits (by decide)) s 0).mono ?_
    rintro v h33 ⟨⟨A4, n4, c4, p33, _⟩, u33, rfl⟩
    exact ⟨rfl, ⟨_, _, _, _, _, _, _, _, _, _, _, p33⟩, uu2.trans u33, rfl⟩
  · have e : (may x s).1 ≠ 0 := by simpa using e
    rw [remove_ne e]
    exact ⟨r1, u1, rfl⟩

theorem cut_zero {x : D} {s : Str} {n : Nat} (h : (may x s).1 = 0) : Dk.cut x s n = (0, { act x with now := put s ((pgs x.now s).take n) x.now, safe := put s ((pgs x.safe s).take n) x.safe, waits := drop x.waits s n }) := by
  have e : may x s = (0, act x) := Prod.ext h (may_zero h).1
  unfold cut
  rw [if_neg (by simp), e, Int.toNat_natCast]; rfl
theorem cut_ne {x : D} {s : Str} {n : Int} (h : (may x s).1 ≠ 0) (hb : (!x.down && (mGet x.now s).isSome && decide (n < 0)) = false) : Dk.cut x s n = may x s := by
  unfold cut
  rw [hb]
  generalize may x s = r at h ⊢
  obtain ⟨e, d⟩ := r
  simp only [Bool.false_eq_true, if_false]
  exact if_neg h
theorem cut_bad {x : D} {s : Str} {n : Int} (hb : (!x.down && (mGet x.now s).isSome && decide (n < 0)) = true) : Dk.cut x s n = (1, x) := by unfold cut; rw [if_pos hb]
theorem may_some {x : D} {s : Str} (h : (may x s).1 = 0) : x.down = false ∧ (mGet x.now s).isSome = true := by
  unfold may at h
  split at h
  · cases h
  · rename_i hd
    refine ⟨by simpa using hd, ?_⟩
    cases e : mGet x.now s with
    | none => rw [e] at h; cases h
    | some l => rfl
set_option maxHeartbeats 2000000 in
theorem rcut_spec (hN : Nb N h) (hr : RefAt h m x N) (ok : Ok x) (sz : Sz x) (s : Str) (n : Int) :
    HC Try.prog 66 #[.pointer (some ⟨m, 0, none⟩), .string s, .int .i64 n] h fun v h' => RefAt h' m (Dk.cut x s n).2 N ∧ Upd (fun q => q = m) h h' ∧ v = .int .i64 (Dk.cut x s n).1 := by
  have hmN := hr.nm
  obtain ⟨A1, n1, c1, f1, A2, n2, c2, f2, A3, n3, c3, hp⟩ := hr
  refine HC_of_vc (args := [.pointer (some ⟨m, 0, none⟩), .string s, .int .i64 n]) (base := 85) (cuts := []) (bigs := []) hm Try.func66 ?_
  rw [vcRcut]
  have hb1 := sz.now
  have hb2 := sz.safe
  have hl1 := hp.now.len
  have hle := fs_len hp.nowE
  refine ⟨_, rfl, A1, n1, c1, reads_load scFs (cell_cells0 hp.box rfl), (get_spec (c := c1) hp.now (by omega) s).mono ?_⟩
  rintro v h5 ⟨k5, f, rfl, hfn, okf, hfp⟩
  rw [hp.nowE]
  refine ⟨_, _, _, _, _, rfl, svc_fl rfl ?_⟩
  have k12 := keep_push h5 (flBox f)
  have kk : Keep h.size h (h5.push (flBox f)) := k5.trans (k12.mono k5.size)
  have p12 := hp.keep kk
  refine ⟨_, rfl, _, reads_load scB (p12.rd rfl), br_intro (fun e => ?_) (fun e => ?_)⟩
  · rw [cut_bad e]
    exact ⟨⟨_, _, _, _, _, _, _, _, _, _, _, p12⟩, kk.upd _, rfl⟩
  refine (rmay_spec (hN.mono kk.size) ⟨_, _, _, _, _, _, _, _, _, _, _, p12⟩ ok sz s).mono ?_
  rintro v h1 ⟨r1, u1, rfl⟩
  refine ⟨_, rfl, br_intro (fun e2 => ?_) (fun e2 => ?_)⟩
  · have e2 : (may x s).1 = 0 := by simpa using e2
    have hs := may_some e2
    have h0 : 0 ≤ n := by
      rw [hs.1, hs.2] at e
      have : ¬ n < 0 := by simpa using e
      omega
    obtain ⟨n, rfl⟩ := Int.eq_ofNat_of_zero_le h0
    rw [(may_zero e2).1] at r1
    rw [cut_zero e2, e2]
    have u01 : Upd (fun q => q = m) h h1 := (kk.upd _).trans u1
    clear hp p12 hl1 hle
    obtain ⟨A1, n1, c1, f1, A2, n2, c2, f2, A3, n3, c3, hp⟩ := r1
    have N1 : Nb N h1 := hN.mono u01.size
    have hl1 := hp.now.len
    have hle : f1.length = x.now.length := fs_len hp.nowE
    have hl2 := hp.safe.len
    have hle2 : f2.length = x.safe.length := fs_len hp.safeE
    have hmlt := hp.lt
    refine ⟨_, rfl, A1, n1, c1, reads_load scFs (cell_cells0 hp.box rfl), (get_spec (c := c1) hp.now (by omega) s).mono ?_⟩
    rintro v h23 ⟨k23, g, rfl, hgn, okg, hgp⟩
    rw [hp.nowE] at hgp ⊢
    refine ⟨_, _, _, _, _, rfl, svc_fl rfl ?_⟩
    have k30 := keep_push h23 (flBox g)
    have b30 := push_at h23 (flBox g)
    have kk1 : Keep h1.size h1 (h23.push (flBox g)) := k23.trans (k30.mono k23.size)
    have p30 := hp.keep kk1
    have okg30 := okg.keep k30
    generalize hH : h23.push (flBox g) = H30 at *
    refine ⟨_, rfl, A2, n2, c2, reads_load scFs (p30.rd rfl), (get_spec (c := c2) p30.safe (by omega) s).mono ?_⟩
    rintro v h36 ⟨k36, f', rfl, hfn', okf', hfp'⟩
    rw [p30.safeE] at hfp' ⊢
    refine ⟨_, _, _, _, _, rfl, svc_fl rfl ?_⟩
    have k43 := keep_push h36 (flBox f')
    have b43 := push_at h36 (flBox f')
    have kk2 : Keep H30.size H30 (h36.push (flBox f')) := k36.trans (k43.mono k36.size)
    have p43 := p30.keep kk2
    have okf43 := okf'.keep k43
    have b43g := kk2.at b30 (at_lt b30)
    have hlg : g.len ≤ 1073741824 := by have := okg.sl.len; have := pgs_le ok s; rw [hgp] at *; have e3 : (pgs (act x).now s).length = (pgs x.now s).length := rfl; omega
    have hlf : f'.len ≤ 1073741824 := by
      have h1 := okf'.sl.len
      have h2 := pgs_le ok s
      have h3 := ok.fewer s
      rw [hfp'] at h1
      have e3 : (pgs (act x).safe s).length = (pgs x.safe s).length := rfl
      omega
    have ltg := at_lt b30
    generalize hH2 : h36.push (flBox f') = H43 at *
    refine ⟨fun H => RefP H m (act x) N A1 n1 c1 f1 A2 n2 c2 f2 A3 n3 c3, p43, _, rfl, A1, n1, c1, fun H hH => reads_load scFs (cell_cells0 hH.box rfl), _, _, _, _, fb_all b43g, ?_⟩
    have N43 : Nb N H43 := N1.mono (Nat.le_trans kk1.size kk2.size)
    refine (rshort_spec N43 (okg30.keep kk2) hlg (n := n)).mono ?_
    rintro v h55 ⟨k55, g2, rfl, hgn2, okg2, hgp2⟩
    have p55 := p43.keep k55
    refine ⟨_, _, _, _, rfl, p55, (rput_spec (x := g2) (N43.mono k55.size) p55.now (by omega) okg2).mono ?_⟩
    rintro v h61 ⟨k61, a62, k63, c64, rfl, fs61⟩
    have p61 := p55.keep k61
    refine ⟨_, _, _, rfl, _, rfl, ?_⟩
    show SVC _ (Instr.storeAt _ (.pointer (some ((⟨m, 0, none⟩ : Addr).add 0))) _) _ _
    refine svc_store_box szFs p61.box (by show 0 < 8; decide) rfl (one_slice _ _ _) fun h67 s67 b67 u67 => ?_
    have hput : (goP Fl.n g2 false f1).map Fl.pl = put s ((pgs x.now s).take n) x.now := by
      rw [goP_fs p61.nowE ok.now, hgn2, hgp2, hgn, hgp]; rfl
    have p67 : RefP h67 m { act x with now := put s ((pgs x.now s).take n) x.now } N a62 k63 c64 (goP Fl.n g2 false f1) A2 n2 c2 f2 A3 n3 c3 :=
      RefP.box' (y := { act x with now := put s ((pgs x.now s).take n) x.now }) hmN u67 b67 rfl fs61 hput p61.safe p61.safeE p61.waits
    have kk3 : Keep H43.size H43 h61 := k55.trans (k61.mono k55.size)
    have ltf := at_lt b43
    have b67f : h67[h36.size]? = some (flBox f') := u67.at (kk3.at b43 ltf) (by have := kk2.size; have := k36.size; have := kk1.size; omega)
    have okf67 : FlOk N h67 f' := (okf43.keep kk3).upd (u67.mono fun q e => e ▸ hmN)
    have uu : Upd (fun q => q = m) h h67 := u01.trans ((kk1.upd _).trans ((kk2.upd _).trans ((kk3.upd _).trans u67)))
    refine ⟨fun H => RefP H m { act x with now := put s ((pgs x.now s).take n) x.now } N a62 k63 c64 (goP Fl.n g2 false f1) A2 n2 c2 f2 A3 n3 c3, p67, _, rfl, A2, n2, c2, fun H hH => reads_load scFs (hH.rd rfl), _, _, _, _, fb_all b67f, ?_⟩
    refine (rshort_spec (hN.mono uu.size) okf67 hlf (n := n)).mono ?_
    rintro v h79 ⟨k79, g3, rfl, hgn3, okg3, hgp3⟩
    have p79 := p67.keep k79
    refine ⟨_, _, _, _, rfl, p79, (rput_spec (x := g3) (hN.mono (Nat.le_trans uu.size k79.size)) p79.safe (by omega) okg3).mono ?_⟩
    rintro v h85 ⟨k85, a86, k87, c88, rfl, fs85⟩
    have p85 := p79.keep k85
    refine ⟨_, _, _, rfl, _, rfl, svc_store_box szFs p85.box (by show 1 < 8; decide) rfl (one_slice _ _ _) fun h91 s91 b91 u91 => ?_⟩
    have hput2 : (goP Fl.n g3 false f2).map Fl.pl = put s ((pgs x.safe s).take n) x.safe := by
      rw [goP_fs p85.safeE ok.safe, hgn3, hgp3, hfn', hfp']; rfl
    have p91 : RefP h91 m { act x with now := put s ((pgs x.now s).take n) x.now, safe := put s ((pgs x.safe s).take n) x.safe } N a62 k63 c64 (goP Fl.n g2 false f1) a86 k87 c88 (goP Fl.n g3 false f2) A3 n3 c3 :=
      RefP.box' (y := { act x with now := put s ((pgs x.now s).take n) x.now, safe := put s ((pgs x.safe s).take n) x.safe }) hmN u91 b91 rfl p85.now p85.nowE fs85 hput2 p85.waits
    have uu2 : Upd (fun q => q = m) h h91 := uu.trans (((k79.trans (k85.mono k79.size)).upd _).trans u91)
    refine (rdrop_spec (hN.mono uu2.size) p91 (Nat.le_trans sz.waits (by decide)) s n).mono ?_
    rintro v h93 ⟨⟨A4, n4, c4, p93, _⟩, u93, rfl⟩
    exact ⟨rfl, ⟨_, _, _, _, _, _, _, _, _, _, _, p93⟩, uu2.trans u93, rfl⟩
  · have e2 : (may x s).1 ≠ 0 := by simpa using e2
    rw [cut_ne e2 e]
    exact ⟨r1, (kk.upd _).trans u1, rfl⟩
end
end Go.Proofs.Ytembbemljejjbaa
set_option linter.unusedVariables false
set_option linter.unusedSimpArgs false
set_option maxRecDepth 100000
namespace Go.Proofs.Ytembbemljejjbaa
open Go Go.Vc Go.Proofs Go.Dk

theorem rename_zero {x : D} {s t : Str} (h : (may x s).1 = 0) (ht : s ≠ t) : Dk.rename x s t = (0, { act x with now := moved s t x.now, safe := moved s t x.safe, waits := (drop x.waits t 0).map (turnW s t) }) := by
  have e : may x s = (0, act x) := Prod.ext h (may_zero h).1
  unfold rename; rw [e]; exact if_pos ⟨rfl, ht⟩
theorem rename_ne {x : D} {s t : Str} (h : (may x s).1 ≠ 0 ∨ s = t) : Dk.rename x s t = may x s := by
  unfold rename
  generalize may x s = r at h ⊢
  obtain ⟨e, d⟩ := r
  exact if_neg fun hh => h.elim (fun h => h hh.1) hh.2
/-- the first ones turned. -/
def mixW (s t : Str) (ws : List Wt) (j : Nat) : List Wt := (ws.take j).map (turnW s t) ++ ws.drop j
theorem mixW_at {s t : Str} {ws : List Wt} {j : Nat} (hj : j < ws.length) : (mixW s t ws j)[j]? = ws[j]? := by
  unfold mixW
  rw [List.getElem?_append_right (by simp; omega), List.length_map, List.length_take, Nat.min_eq_left (by omega), Nat.sub_self, List.getElem?_drop, Nat.add_zero]
theorem mixW_len (s t : Str) (ws : List Wt) (j : Nat) : (mixW s t ws j).length = ws.length := by simp [mixW]; omega
theorem mixW_set {s t : Str} {ws : List Wt} {j : Nat} {w : Wt} (hw : ws[j]? = some w) : (mixW s t ws j).set j (turnW s t w) = mixW s t ws (j + 1) := by
  obtain ⟨hj, e⟩ := List.getElem?_eq_some_iff.1 hw
  have hl : ((ws.take j).map (turnW s t)).length = j := by rw [List.length_map, List.length_take]; omega
  unfold mixW
  rw [List.set_append_right _ _ (by omega), hl, Nat.sub_self, List.drop_eq_getElem_cons hj, List.set_cons_zero, List.take_succ_eq_append_getElem hj, List.map_append, e, List.append_assoc]
  rfl
theorem rw_set {ws : List Wt} {rest : List Value} {j : Nat} {w : Wt} (hw : ws[j]? = some w) (t : Str) :
    (ws.flatMap RwE.enc ++ rest).set (j * 3) (.string t) = (ws.set j { w with n := t }).flatMap RwE.enc ++ rest := by
  obtain ⟨hj, e⟩ := List.getElem?_eq_some_iff.1 hw
  have h := putL_flat (E := RwE) ws rest j { w with n := t } hj
  have hsz : RwE.sz = 3 := rfl
  rw [hsz] at h
  rw [← h]
  have h1 : (ws.flatMap RwE.enc ++ rest)[j * 3 + 1]? = some (.int .i64 w.i) := by
    have := flat_get (E := RwE) ws hw (j := 1) (v := .int .i64 w.i) rfl
    rw [hsz] at this
    rw [List.getElem?_append_left (List.getElem?_eq_some_iff.1 this).1]; exact this
  have h2 : (ws.flatMap RwE.enc ++ rest)[j * 3 + 1 + 1]? = some (.string w.p) := by
    have := flat_get (E := RwE) ws hw (j := 2) (v := .string w.p) rfl
    rw [hsz] at this
    rw [List.getElem?_append_left (List.getElem?_eq_some_iff.1 this).1]; exact this
  show _ = (((ws.flatMap RwE.enc ++ rest).set (j * 3) (.string t)).set (j * 3 + 1) (.int .i64 w.i)).set (j * 3 + 1 + 1) (.string w.p)
  generalize ws.flatMap RwE.enc ++ rest = L at h1 h2
  apply List.ext_getElem?
  intro i
  rw [List.getElem?_set, List.getElem?_set, List.getElem?_set]
  obtain ⟨l1, e1⟩ := List.getElem?_eq_some_iff.1 h1
  obtain ⟨l2, e2⟩ := List.getElem?_eq_some_iff.1 h2
  simp only [List.length_set]
  by_cases a : j * 3 + 1 + 1 = i
  · subst a
    rw [if_neg (by omega), if_pos rfl, if_pos l2, h2]
  · rw [if_neg a]
    by_cases b : j * 3 + 1 = i
    · subst b
      rw [if_neg (by omega), if_pos rfl, if_pos l1, h1]
    · rw [if_neg b, ← List.getElem?_set]
section
variable {h : Heap} {m : Nat} {x : D} {N : Nat → Prop}
set_option maxHeartbeats 4000000 in
theorem rrename_spec (hN : Nb N h) (hr : RefAt h m x N) (ok : Ok x) (sz : Sz x) (s t : Str) :
    HC Try.prog 67 #[.pointer (some ⟨m, 0, none⟩), .string s, .string t] h fun v h' => RefAt h' m (Dk.rename x s t).2 N ∧ Upd (fun q => q = m) h h' ∧ v = .int .i64 (Dk.rename x s t).1 := by
  have hmN := hr.nm
  refine HC_of_vc (args := [.pointer (some ⟨m, 0, none⟩), .string s, .string t]) (base := 96) (cuts := []) (bigs := []) hm Try.func67 ?_
  rw [vcRrename]
  have hb1 := sz.now
  have hb2 := sz.safe
  have hb3 := sz.waits
  refine (rmay_spec hN hr ok sz s).mono ?_
  rintro v h1 ⟨r1, u1, rfl⟩
  refine ⟨_, rfl, br_intro (fun e => ?_) (fun e => ?_)⟩
  · have e : (may x s).1 ≠ 0 ∨ s = t := by
      rw [Bool.or_eq_true] at e
      rcases e with e | e
      · exact .inl (by simpa using e)
      · exact .inr (eq_beq.1 e)
    rw [rename_ne e]
    exact ⟨r1, u1, rfl⟩
  obtain ⟨ea, eb⟩ := (Bool.or_eq_false_iff).1 e
  have e0 : (may x s).1 = 0 := by simpa using ea
  have hst : s ≠ t := fun h0 => by rw [eq_beq.2 h0] at eb; cases eb
  rw [(may_zero e0).1] at r1
  rw [rename_zero e0 hst, e0]
  obtain ⟨A1, n1, c1, f1, A2, n2, c2, f2, A3, n3, c3, hp⟩ := r1
  have N1 : Nb N h1 := hN.mono u1.size
  have hl1 := hp.now.len
  have hle : f1.length = x.now.length := fs_len hp.nowE
  have hl2 := hp.safe.len
  have hle2 : f2.length = x.safe.length := fs_len hp.safeE
  have hmlt := hp.lt
  refine ⟨_, rfl, A1, n1, c1, reads_load scFs (cell_cells0 hp.box rfl), (get_spec (c := c1) hp.now (by omega) s).mono ?_⟩
  rintro v h23 ⟨k23, g, rfl, hgn, okg, hgp⟩
  rw [hp.nowE] at hgp ⊢
  refine ⟨_, _, _, _, _, rfl, svc_fl rfl ?_⟩
  have k30 := keep_push h23 (flBox g)
  have b30 := push_at h23 (flBox g)
  have kk1 : Keep h1.size h1 (h23.push (flBox g)) := k23.trans (k30.mono k23.size)
  have p30 := hp.keep kk1
  have hs1 := k23.size
  have sf30 := (hp.safe.turn (M := fun q => N q ∨ q = h23.size) fun q hq hM => hM.resolve_right fun e => by omega).keep kk1
  have okg30 := (okg.turn (M := fun q => N q ∨ q = h23.size) fun q hq hM => hM.resolve_right fun e => by omega).keep k30
  generalize hH : h23.push (flBox g) = H30 at *
  refine ⟨_, rfl, A2, n2, c2, reads_load scFs (p30.rd rfl), (get_spec (c := c2) sf30 (by omega) s).mono ?_⟩
  rintro v h36 ⟨k36, f', rfl, hfn', okf', hfp'⟩
  rw [p30.safeE] at hfp' ⊢
  refine ⟨_, _, _, _, _, rfl, svc_fl rfl ?_⟩
  have k43 := keep_push h36 (flBox f')
  have b43 := push_at h36 (flBox f')
  have kk2 : Keep H30.size H30 (h36.push (flBox f')) := k36.trans (k43.mono k36.size)
  have p43 := p30.keep kk2
  have hs2 := k36.size
  have okf43 := (okf'.turn (M := fun q => (N q ∨ q = h23.size) ∨ q = h36.size) fun q hq hM => hM.resolve_right fun e => by omega).keep k43
  have b43g := kk2.at b30 (at_lt b30)
  have ltg := at_lt b30
  have okg36 := okg30.keep k36
  have okg43 := (okg36.turn (M := fun q => (N q ∨ q = h23.size) ∨ q = h36.size) fun q hq hM => hM.resolve_right fun e => by omega).keep k43
  have ltf := at_lt b43
  generalize hH2 : h36.push (flBox f') = H43 at *
  have N43 : Nb N H43 := N1.mono (Nat.le_trans kk1.size kk2.size)
  -- the two files take the other name
  refine svc_store_cell szS b43g (by show 0 < 2; decide) rfl (one_string _) fun h45 s45 b45 u45 => ?_
  have u45 := upd_of_one s45 u45
  have b45 : h45[h23.size]? = some (flBox { g with n := t }) := b45
  have b45f := u45.at b43 (by omega)
  refine svc_store_cell szS b45f (by show 0 < 2; decide) rfl (one_string _) fun h32 s32 b32 u32 => ?_
  have u32 := upd_of_one s32 u32
  have b32 : h32[h36.size]? = some (flBox { f' with n := t }) := b32
  have b32g := u32.at b45 (by omega)
  have k32 : Keep h1.size h1 h32 := kk1.trans ((kk2.mono kk1.size).trans ((u45.keep (by have := kk1.size; have := kk2.size; omega) fun q e => by omega).trans (u32.keep (by have := kk1.size; have := kk2.size; omega) fun q e => by omega)))
  have p32 := hp.keep k32
  have N32 : Nb N h32 := N1.mono k32.size
  have hB : ∀ q, N q → ¬ q = h23.size ∧ ¬ q = h36.size := fun q hq => by have := N1 q hq; omega
  -- the slices of the two files are none of the boxes
  have okg32 : FlOk N h32 g := ((okg43.upd (u45.mono fun q e => .inl (.inr e))).upd (u32.mono fun q e => .inr e)).turn fun q _ hq => .inl (.inl hq)
  have okf32 : FlOk N h32 f' := ((okf43.upd (u45.mono fun q e => .inl (.inr e))).upd (u32.mono fun q e => .inr e)).turn fun q _ hq => .inl (.inl hq)
  refine (rdrop_spec N32 p32 (Nat.le_trans sz.waits (by decide)) t 0).mono ?_
  rintro v h34 ⟨⟨A4, n4, c4, p34, o34⟩, u34, rfl⟩
  have hl4 : (drop x.waits t 0).length = n4 := o34.1
  have hl4' : n4 ≤ 1048000 := by have : (drop x.waits t 0).length ≤ x.waits.length := List.length_filter_le _ _
                                 omega
  have hm32 := p32.lt
  have o34 : Own RwE 141 h32.size h34 A4 n4 c4 (drop x.waits t 0) := o34
  refine ⟨rfl, _, rfl, A4, n4, c4, reads_load scRw (p34.rd rfl), ?_⟩
  refine ⟨fun n41 H => ∃ j : Nat, n41 = j ∧ j ≤ n4 ∧ Upd (fun q => q = m) h32 H ∧ H[m]? = some (.cells (refC A1 n1 c1 A2 n2 c2 A4 n4 c4 (act x)).toArray 63 (0, 0)) ∧ Own RwE 141 h32.size H A4 n4 c4 (mixW s t (drop x.waits t 0) j),
    fun n41 _ => n4 - n41.toNat, ⟨0, rfl, Nat.zero_le _, u34, p34.box, by simpa [mixW] using o34⟩, ?_⟩
  rintro n41 h42 ⟨j, rfl, hj, u42, b42, o42⟩
  refine br_intro (fun hlt => ?_) (fun hge => ?_)
  · have hlt := of_decide_eq_true hlt
    have hlt : j < n4 := by omega
    obtain ⟨w, p, hx, hA, rd⟩ := rw_at (o42.sln N32) hlt
    rw [mixW_at (by omega)] at hx
    refine ⟨p, ⟨hA, by omega, by omega⟩, _, _, _, rd, svc_rw rfl ?_⟩
    have b48 := push_at h42 (rwBox w)
    have k48 := keep_push h42 (rwBox w)
    have o48 := o42.upd (k48.upd fun _ => False) fun _ _ h => h
    have m48 := k48.at b42 (at_lt b42)
    have u48 : Upd (fun q => q = m) h32 (h42.push (rwBox w)) := u42.trans (k48.upd _)
    refine ⟨_, wb_name b48, ?_⟩
    rw [wrap_i64 (by omega) (by omega)]
    refine br_intro (fun e => ?_) (fun e => ?_)
    · have e : w.n = s := eq_beq.1 e
      have hc : ∃ b cells, A4 = some ⟨b, 0, none⟩ ∧ h32.size ≤ b ∧ (h42.push (rwBox w))[b]? = some (.cells cells 141 (0, 0)) ∧ cells.size = c4 * 3 ∧ ∃ rest, cells.toList = (mixW s t (drop x.waits t 0) j).flatMap RwE.enc ++ rest := by
        rcases o48.2.2 with ⟨_, h0⟩ | h0
        · have := o48.2.1; omega
        · exact h0
      obtain ⟨b, cells, rfl, hb, hcell, hcs, rest, hrest⟩ := hc
      have hc4 := o48.2.1
      cases hA
      refine ⟨_, rfl, _, n4, c4, reads_load scRw (cell_cells m48 rfl), ⟨b, 0, none⟩, ⟨rfl, by omega, by omega⟩, ?_⟩
      have ea : ((⟨b, 0, none⟩ : Addr).add ((j : Int).toNat * 3)) = (⟨b, 0, none⟩ : Addr).add (j * 3) := rfl
      rw [ea]
      refine svc_store_box szS hcell (by omega) rfl (one_string _) fun h56 s56 b56 u56 => ⟨⟨j + 1, rfl, hlt, ?_, u56.at m48 (by omega), ?_⟩, by dsimp only; omega⟩
      · exact ⟨by have := u48.size; omega, fun i hi hne => (u56.block i (Nat.lt_of_lt_of_le hi u48.size) (by omega)).trans (u48.block i hi hne)⟩
      · refine ⟨by rw [mixW_len]; omega, hc4, .inr ⟨b, _, rfl, hb, b56, by rw [List.size_toArray, List.length_set, Array.length_toList]; exact hcs, rest, ?_⟩⟩
        show cells.toList.set (j * 3) (.string t) = _
        rw [hrest, rw_set (w := w) (by rw [mixW_at (by omega)]; exact hx) t]
        have ew : ({ w with n := t } : Wt) = turnW s t w := by unfold turnW; rw [if_pos e]
        rw [ew, mixW_set hx]
    · have e : ¬ w.n = s := fun h0 => by rw [eq_beq.2 h0] at e; cases e
      have ew : turnW s t w = w := by unfold turnW; rw [if_neg e]
      have em : mixW s t (drop x.waits t 0) (j + 1) = mixW s t (drop x.waits t 0) j := by
        rw [← mixW_set hx, ew]
        have h0 := mixW_at (s := s) (t := t) (ws := drop x.waits t 0) (j := j) (by omega)
        rw [hx] at h0
        obtain ⟨h1, h2⟩ := List.getElem?_eq_some_iff.1 h0
        rw [← h2, List.set_getElem_self]
      exact ⟨⟨j + 1, rfl, hlt, u48, m48, by rw [em]; exact o48⟩, by dsimp only; omega⟩
  · have hge := of_decide_eq_false hge
    have hj' : j = n4 := by omega
    have hmix : mixW s t (drop x.waits t 0) j = (drop x.waits t 0).map (turnW s t) := by unfold mixW; rw [List.take_of_length_le (by omega), List.drop_eq_nil_of_le (by omega), List.append_nil]
    rw [hmix] at o42
    have uN : Upd N h32 h42 := u42.mono fun q e => e ▸ hmN
    let y0 : D := { act x with waits := (drop x.waits t 0).map (turnW s t) }
    have p42 : RefP h42 m y0 N A1 n1 c1 f1 A2 n2 c2 f2 A4 n4 c4 := ⟨b42, p32.now.upd uN, p32.nowE, p32.safe.upd uN, p32.safeE, o42.sln N32, hmN⟩
    have bg42 := u42.at b32g (by omega)
    have bf42 := u42.at b32 (by omega)
    have okg42 : FlOk N h42 { g with n := t } := ⟨(okg32.upd uN).sl, okg32.cap⟩
    have okf42 : FlOk N h42 { f' with n := t } := ⟨(okf32.upd uN).sl, okf32.cap⟩
    have u042 : Upd (fun q => q = m) h h42 := u1.trans ((k32.upd _).trans u42)
    have N42 : Nb N h42 := hN.mono u042.size
    clear hmix hge hj
    refine ⟨fun H => H[h23.size]? = some (flBox { g with n := t }), bg42, _, rfl, A1, n1, c1, reads_load scFs (cell_cells0 p42.box rfl), (without_spec (c := c1) N42 p42.now (by omega) s).mono ?_⟩
    rintro v h63 ⟨k63, a64, k65, c66, rfl, fs63⟩
    have p63 := p42.keep k63
    have hw1 : (f1.filter fun f => decide (f.n ≠ s)).length ≤ f1.length := List.length_filter_le _ _
    have hw1' := fs63.len
    refine ⟨_, _, _, rfl, k63.at bg42 (at_lt bg42), t, g.a, g.len, g.cap, fun H hH => fb_all hH, (rput_spec (x := { g with n := t }) (N42.mono k63.size) fs63 (by omega) (okg42.keep k63)).mono ?_⟩
    rintro v h73 ⟨k73, a74, k75, c76, rfl, fs73⟩
    have p73 := p63.keep k73
    refine ⟨_, _, _, rfl, _, rfl, ?_⟩
    show SVC _ (Instr.storeAt _ (.pointer (some ((⟨m, 0, none⟩ : Addr).add 0))) _) _ _
    refine svc_store_box szFs p73.box (by show 0 < 8; decide) rfl (one_slice _ _ _) fun h79 s79 b79 u79 => ?_
    have hmv1 : (goP Fl.n { g with n := t } false (f1.filter fun f => decide (f.n ≠ s))).map Fl.pl = moved s t x.now := by
      rw [goP_fs (F := del s x.now) (by rw [del_pl, p42.nowE]; rfl) (srt_del ok.now s)]
      show put t g.pages _ = _
      rw [hgp]; rfl
    let y1 : D := { y0 with now := moved s t x.now }
    have p79 : RefP h79 m y1 N a74 k75 c76 (goP Fl.n { g with n := t } false (f1.filter fun f => decide (f.n ≠ s))) A2 n2 c2 f2 A4 n4 c4 := RefP.box' (y := y1) hmN u79 b79 rfl fs73 hmv1 p73.safe p73.safeE p73.waits
    have k4273 : Keep h42.size h42 h73 := k63.trans (k73.mono k63.size)
    have bf79 := u79.at (k4273.at bf42 (at_lt bf42)) (by omega)
    have okf79 : FlOk N h79 { f' with n := t } := (okf42.keep k4273).upd (u79.mono fun q e => e ▸ hmN)
    have u079 : Upd (fun q => q = m) h h79 := u042.trans ((k4273.upd _).trans u79)
    have N79 : Nb N h79 := hN.mono u079.size
    refine ⟨fun H => H[h36.size]? = some (flBox { f' with n := t }), bf79, _, rfl, A2, n2, c2, reads_load scFs (p79.rd rfl), (without_spec (c := c2) N79 p79.safe (by omega) s).mono ?_⟩
    rintro v h86 ⟨k86, a87, k88, c89, rfl, fs86⟩
    have p86 := p79.keep k86
    have hw2 : (f2.filter fun f => decide (f.n ≠ s)).length ≤ f2.length := List.length_filter_le _ _
    have hw2' := fs86.len
    refine ⟨_, _, _, rfl, k86.at bf79 (at_lt bf79), t, f'.a, f'.len, f'.cap, fun H hH => fb_all hH, (rput_spec (x := { f' with n := t }) (N79.mono k86.size) fs86 (by omega) (okf79.keep k86)).mono ?_⟩
    rintro v h96 ⟨k96, a97, k98, c99, rfl, fs96⟩
    have p96 := p86.keep k96
    refine ⟨_, _, _, rfl, _, rfl, svc_store_box szFs p96.box (by show 1 < 8; decide) rfl (one_slice _ _ _) fun h102 s102 b102 u102 => ?_⟩
    have hmv2 : (goP Fl.n { f' with n := t } false (f2.filter fun f => decide (f.n ≠ s))).map Fl.pl = moved s t x.safe := by
      rw [goP_fs (F := del s x.safe) (by rw [del_pl, p79.safeE]; rfl) (srt_del ok.safe s)]
      show put t f'.pages _ = _
      rw [hfp']; rfl
    exact ⟨⟨_, _, _, _, _, _, _, _, _, _, _, RefP.box' (y := { y1 with safe := moved s t x.safe }) hmN u102 b102 rfl p96.now p96.nowE fs96 hmv2 p96.waits⟩, u079.trans (((k86.trans (k96.mono k86.size)).upd _).trans u102), rfl⟩
end
end Go.Proofs.Ytembbemljejjbaa
