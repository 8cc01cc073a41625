/-
  DiskKeeps, walked: whatever bytes, the law returns true. Conditions: none.
-/
import Derived.Test.YtembbemljejjbaaDk5
import Derived.Test.YtembbemljejjbaaG3
set_option linter.unusedVariables false
set_option linter.unusedSimpArgs false
set_option maxRecDepth 100000
namespace Go.Proofs.Ytembbemljejjbaa
open Go Go.Vc Go.Proofs Go.Dk

theorem bs_byte (b : UInt8) : bsCells Try.prog 22 1 [(0, .int .u8 (b.toNat : Nat))] = some (5, [b].flatMap ByteE.enc) := by kernel_rfl
/-- a text of one byte, as a slice. -/
theorem svc_lit {h : Heap} {b : UInt8} {K : Value → Heap → Prop} (k : ∀ h', Keep h.size h h' → h'.size = h.size + 1 → Sl ByteE h' (some ⟨h.size, 0, none⟩) 1 [b] → K (.slice (some ⟨h.size, 0, none⟩) 1 1) h') :
    SVC Try.prog (Instr.buildSlice 22 1 (Array.mk [(0, Value.int IntKind.u8 (b.toNat : Nat))])) h fun v3 h4 => ∃ (a5 : Option Addr) (k6 k7 : Nat), v3 = Value.slice a5 k6 k7 ∧ SVC Try.prog (convert 22 22 (Value.slice a5 k6 k7)) h4 K := by
  refine svc_buildSlice (bs_byte b) ⟨_, _, _, rfl, ?_⟩
  refine svc_mark undBs undB (push_at h (.cells ([b].flatMap ByteE.enc).toArray 5 (0, 0))) fun h' s' b' u' => ?_
  exact k h' ((keep_push h _).trans (u'.keep (by simp) fun i e => by omega)) (by rw [s']; simp) (sl_bytes b')

def sa : Str := ⟨#[97]⟩
def al1 : D := (write (new 5) sa 0 ⟨#[120]⟩).2
def al2 : D := (write al1 sa 1 ⟨#[121]⟩).2
def al3 : D := on (off 2 al2)
theorem al1_e : (write (new 5) sa 0 ⟨#[120]⟩).1 = 0 := by kernel_rfl
theorem al2_e : (write al1 sa 1 ⟨#[121]⟩).1 = 0 := by kernel_rfl
theorem al3_r0 : Dk.read al3 sa 0 = (zp, 0) := by kernel_rfl
theorem al3_r1 : Dk.read al3 sa 1 = (pad ⟨#[121]⟩, 0) := by kernel_rfl
theorem al3_f : free al3 = 3 := by kernel_rfl

theorem alive_spec (h : Heap) : HC Try.prog 13 #[] h fun v h' => Keep h.size h h' ∧ v = .bool true := by
  refine HC_of_vc (args := []) (base := 61) (cuts := []) (bigs := []) hm Try.func13 ?_
  rw [vcAlive]
  refine (new_spec h 5).mono ?_
  rintro v h1 ⟨k1, d, rfl, hd1⟩
  refine ⟨_, rfl, svc_lit (b := 120) fun h9 k9 s9 l9 => ⟨_, _, _, rfl, ?_⟩⟩
  have hO1 := hd1.1
  refine (write_spec (b := ⟨#[120]⟩) (hd1.keep k9) l9 (fun q ⟨a, e, eq⟩ hO => by cases e; have := hO1 q hO; simp at eq; omega) (by decide)).mono ?_
  rintro v h14 ⟨O14, hd14, sub14, u14, rfl⟩
  have hd14 : DiskAt h14 d al1 O14 := hd14
  have e1 : (write (new 5) ⟨#[97]⟩ 0 ⟨#[120]⟩).1 = 0 := al1_e
  rw [e1]
  have kk14 : Keep h.size h h14 := k1.trans ((k9.mono k1.size).trans (u14.keep (by have := k1.size; have := k9.size; omega) fun i hi => hi.1))
  refine ⟨_, rfl, br_intro (fun _ => ?_) (fun e => by cases e)⟩
  refine svc_lit (b := 121) fun h22 k22 s22 l22 => ⟨_, _, _, rfl, ?_⟩
  have hO14 := hd14.1
  refine (write_spec (b := ⟨#[121]⟩) (hd14.keep k22) l22 (fun q ⟨a, e, eq⟩ hO => by cases e; have := hO14 q hO; simp at eq; omega) (by decide +kernel)).mono ?_
  rintro v h27 ⟨O27, hd27, sub27, u27, rfl⟩
  have hd27 : DiskAt h27 d al2 O27 := hd27
  have e2 : (write al1 ⟨#[97]⟩ 1 ⟨#[121]⟩).1 = 0 := al2_e
  rw [e2]
  have base14 : ∀ q, O14 q → h.size ≤ q := fun q h0 => by rcases sub14 q h0 with h0 | h0; exact h0.1; have := k9.size; have := k1.size; omega
  have kk27 : Keep h.size h h27 := kk14.trans ((k22.mono kk14.size).trans (u27.keep (by have := kk14.size; have := k22.size; omega) base14))
  refine ⟨_, rfl, br_intro (fun e => by cases e) (fun _ => ?_)⟩
  have base27 : ∀ q, O27 q → h.size ≤ q := fun q h0 => by rcases sub27 q h0 with h0 | h0; exact base14 q h0; have := k22.size; have := kk14.size; omega
  refine (off_spec (keep := 2) hd27 (by decide) (by decide +kernel)).mono ?_
  rintro v h30 ⟨O30, hd30, sub30, u30, rfl⟩
  have kk30 : Keep h.size h h30 := kk27.trans (u30.keep kk27.size base27)
  have base30 : ∀ q, O30 q → h.size ≤ q := fun q h0 => by rcases sub30 q h0 with h0 | h0; exact base27 q h0; have := kk27.size; omega
  refine ⟨rfl, (on_spec hd30).mono ?_⟩
  rintro v h32 ⟨hd32, u32, rfl⟩
  have hd32 : DiskAt h32 d al3 O30 := hd32
  have kk32 : Keep h.size h h32 := kk30.trans (u32.keep kk30.size base30)
  refine ⟨rfl, (read_spec hd32 sa 0).mono ?_⟩
  rintro v h34 ⟨k34, b0, m0, rfl, hm0, hb0, hc0⟩
  rw [al3_r0] at hm0 hc0
  obtain rfl : m0 = 512 := hm0.trans zp_size
  refine ⟨_, _, _, _, by rw [al3_r0], (read_spec (hd32.keep k34) sa 1).mono ?_⟩
  rintro v h40 ⟨k40, b1, m1, rfl, hm1, hb1, hc1⟩
  rw [al3_r1] at hm1 hc1
  obtain rfl : m1 = 512 := hm1.trans (pad_size (by decide))
  have q0 := hc0 (by decide)
  have q1 := hc1 (by decide)
  have q0' := k40.at q0 (at_lt q0)
  refine ⟨_, _, _, _, by rw [al3_r1], ⟨b0, 0, none⟩, fun _ => ⟨by rw [if_neg (by decide)], by decide, by decide⟩, 0, fun _ => reads_load (by kernel_rfl) (cell_cells0 q0' (by kernel_rfl)),
    ⟨b1, 0, none⟩, fun _ => ⟨by rw [if_neg (by decide)], by decide, by decide⟩, 121, fun _ => reads_load (by kernel_rfl) (cell_cells0 q1 (by kernel_rfl)), br_intro (fun _ => ?_) (fun e => by simp at e)⟩
  refine (free_spec ((hd32.keep k34).keep k40)).mono ?_
  rintro v h50 ⟨k50, rfl⟩
  rw [al3_f]
  exact ⟨_, rfl, kk32.trans ((k34.mono kk32.size).trans ((k40.mono (by have := kk32.size; have := k34.size; omega)).trans (k50.mono (by have := kk32.size; have := k34.size; have := k40.size; omega)))), rfl⟩
end Go.Proofs.Ytembbemljejjbaa
