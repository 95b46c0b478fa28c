/- The walks of the reference's products with powers of two, on digits of 16 bits; of its products and these of whole numbers. -/
import Derived.Test.YtlgecdkidgjgiaaDoorRfE
import Derived.Test.YtlgecdkidgjgiaaDoorShW
namespace Go.Proofs.YtlgecdkidgjgiaaDoor
open Go.RowKit

theorem pow16 (k : Nat) (h : k ≤ 15) : (1 : Int) ≤ 2 ^ k ∧ (2 : Int) ^ k ≤ 32768 := by
  have h1 := two_pos k
  have : (2 : Int) ^ k ≤ 2 ^ 15 := by exact_mod_cast Nat.pow_le_pow_right (by decide) h
  exact ⟨by omega, by simpa using this⟩

set_option maxRecDepth 100000 in
set_option maxHeartbeats 1600000 in
theorem rshl_any (A : Option Addr) (n : Nat) (xs : List Int) (c N : Nat) (w : World) (hr : RdS w .u32 A n xs) (hsm : n ≤ 65536) (hN : N ≤ 1048576) (hx : Dg 65536 xs) :
    Calls Tryd.prog 64 #[.slice A n c, .int .i64 N] w fun e w' => ∃ (zs : List Int) (B : Option Addr) (d : Nat),
      e = .returned (.slice B zs.length d) ∧ zs.length ≤ d ∧ RdS w' .u32 B zs.length zs ∧ Can 65536 zs (2 ^ N * vl 65536 xs) ∧ Below w.heap.size w w' := by
  obtain ⟨q, hq⟩ : ∃ q, q = N / 16 := ⟨_, rfl⟩
  obtain ⟨r, hrr⟩ : ∃ r, r = N % 16 := ⟨_, rfl⟩
  have hr16 : r < 16 := by omega
  have hq' : (N : Int) / 16 = (q : Int) := by omega
  have hr' : (N : Int) % 16 = (r : Int) := by omega
  have hqb : q ≤ 65536 := by omega
  have hval : ∀ zs, Can 65536 zs (vl 65536 xs * 2 ^ r) → Dg 65536 (List.replicate q 0 ++ zs) ∧ vl 65536 (List.replicate q 0 ++ zs) = 2 ^ N * vl 65536 xs := fun zs kz => by
    refine ⟨(Dg.zeros (by decide) q).append kz.dg, ?_⟩
    rw [vl_append, vl_zeros, List.length_replicate, kz.val, show N = 16 * q + r by omega, Int.pow_add, Int.pow_mul]
    rw [show (2 : Int) ^ 16 = 65536 from rfl]
    grind
  have hlz : ∀ zs, Can 65536 zs (vl 65536 xs * 2 ^ r) → zs.length ≤ n + 1 := fun zs kz => by
    refine kz.len_le (n + 1) ?_
    have h1 := (vl_bd hx).2
    rw [hr.len] at h1
    have h2 := (pow16 r (by omega)).2
    have h3 : vl 65536 xs * 2 ^ r ≤ vl 65536 xs * 32768 := Int.mul_le_mul_of_nonneg_left h2 (vl_bd hx).1
    have h4 := (vl_bd hx).1
    rw [Int.pow_succ]
    omega
  have hmk := make_lc 35 80 .u32 4 Tryd.underlying35 Tryd.info_u32 (by decide) q q (Nat.le_refl _) (by omega)
  have HV := Lib.hid hval
  have HL := Lib.hid hlz
  clear hval hlz hq hrr
  go_enter Tryd.func64, Tryd.ntmps64
  go_wp2_with fail
  have hown := Own.made w 80 .u32 q q (Nat.le_refl _) (by omega)
  have hb := al_ w (.cells (arrOf .u32 (fun _ => 0) q 0) 80)
  generalize w.alloc (.cells (arrOf .u32 (fun _ => 0) q 0) 80) = w1 at *
  clear hmk
  go_loop [6, 7] (fun p i => ∃ k : Nat, k ≤ r ∧ i = .int .i64 k ∧ p = .int .u32 (2 ^ k)) (fun _ i => r - (intOf i).toNat)
  case atStart => exact ⟨0, by omega, rfl, rfl⟩
  case round =>
    obtain ⟨k, hk, rfl, rfl⟩ := hrel
    by_cases hlt : k < r
    · have hp := pow16 k (by omega)
      have hpk : 2 * (2 : Int) ^ k = 2 ^ (k + 1) := by rw [Int.pow_succ]; omega
      have hp2 := pow16 (k + 1) (by omega)
      go_wp2_with fail
      go_round
      case rel => exact ⟨k + 1, by omega, by go_num, rfl⟩
      case measure => simp [intOf]; omega
    · have ek : k = r := by omega
      subst ek
      have hp := pow16 k (by omega)
      have rr := Row.new w1 80 (nums .u32 [2 ^ k])
      have b2 := al_ w1 (.cells (nums .u32 [2 ^ k]) 80)
      have hn : nums .u32 [2 ^ k] = #[.int .u32 (2 ^ k)] := rfl
      have hr2 := rr.reads 1 rfl
      replace hown := hown.below b2
      have hb0 := hb.size
      replace hb := hb.trans (b2.mono hb.size)
      rw [hn] at hr2 hown hb
      have hd : Dg 65536 [2 ^ k] := Dg.cons.2 ⟨⟨by omega, by omega⟩, Dg.nil (by decide)⟩
      have HD := Lib.hid hd
      clear hd hn rr b2
      go_wp2_with fail
      generalize w1.alloc (.cells #[.int .u32 (2 ^ k)] 80) = w2 at *
      refine (rmul_any A _ n 1 xs [2 ^ k] c 1 w2 (hr.below hb) hr2 (by omega) (by omega) hx HD.out).mono ?_
      rintro e w3 ⟨zs, B, d, rfl, hd, hrz, kz, b3, hB⟩
      cases B with
      | none => exact absurd rfl hB
      | some B =>
      replace kz : Can 65536 zs (vl 65536 xs * 2 ^ k) := by simpa [vl] using kz
      have hzl := HL.out zs kz
      have hfin := HV.out zs kz
      have HF := Lib.hid hfin
      replace hown := hown.below b3
      have hb2 := hb.size
      replace hb := hb.trans (b3.mono hb2)
      have hb3 := hb.size
      clear kz hfin HV HL hr2 HD b3 hr hB
      go_wp2_with (at_builtin; refine append_nums w.heap.size rfl (.tmp 19) (.tmp 23) 35 80 .u32 4 rfl Tryd.underlying35 Tryd.info_u32 (by decide) _ (List.replicate q 0) B zs.length d zs rfl rfl hown hrz hb hb3 (by simp; omega) ?_; intro v1 w4 hown4 hbel4; obtain ⟨A4, c4, rfl, hc4, hr4⟩ := hown4.rds)
      have hlen : (List.replicate q 0 ++ zs).length = q + zs.length := by simp
      rw [hlen] at hr4 hc4
      refine (rtrim_any A4 (q + zs.length) _ c4 _ hr4 hc4 (by omega)).mono ?_
      rintro e w' ⟨rfl, rfl⟩
      go_wp2_with fail
      go_ret
      have kz := pl_can HF.out.1
      rw [HF.out.2] at kz
      exact ⟨_, A4, c4, rfl, pl_cap hr4.len hc4, hr4.plain, kz, hbel4⟩
end Go.Proofs.YtlgecdkidgjgiaaDoor
