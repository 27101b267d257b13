/- The walk of the reference of chars: utf. Conditions: the number is a sign. -/
import Derived.Test.YtcicibeggkmlcaaGreatDoorRfC
namespace Go.Proofs.YtcicibeggkmlcaaGreatDoor
open Go.RowKit Go.Sof

theorem u8_of (a : Nat) (x : Int) (h : (a : Int) = x) (h2 : a < 256) : Value.int .u8 ((UInt8.ofNat a).toNat : Int) = .int .u8 x := by
  rw [← h, UInt8.toNat_ofNat', Nat.mod_eq_of_lt h2]

theorem back_1 (w : World) (U : Bytes) (x : Int) (a : Nat) (h : (a : Int) = x) (h2 : a < 256) (hU : U = [UInt8.ofNat a]) : (convert 32 9 (.slice (some ⟨w.heap.size, 0, none⟩) 1 1)).run Tryz.prog (w.alloc (.cells #[.int .u8 x] 5)) = .ok (.string ⟨U.toArray⟩) (w.alloc (.cells #[.int .u8 x] 5)) := by
  subst hU
  exact run_convert_bytes_back (P := Tryz.prog) (w.alloc (.cells #[.int .u8 x] 5)) 32 9 5 ⟨w.heap.size, 0, none⟩ 1 [UInt8.ofNat a] Tryz.underlying32 Tryz.underlying5 Tryz.underlying9 (by
    intro j hj
    rw [addr_add]; unfold World.cell?; simp only [heap_alloc_new]
    match j, hj with
    | 0, _ => exact congrArg some (u8_of a x h h2).symm)
theorem back_2 (w : World) (U : Bytes) (x y : Int) (a b : Nat) (h : (a : Int) = x) (h2 : a < 256) (k : (b : Int) = y) (k2 : b < 256) (hU : U = [UInt8.ofNat a, UInt8.ofNat b]) : (convert 32 9 (.slice (some ⟨w.heap.size, 0, none⟩) 2 2)).run Tryz.prog (w.alloc (.cells #[.int .u8 x, .int .u8 y] 5)) = .ok (.string ⟨U.toArray⟩) (w.alloc (.cells #[.int .u8 x, .int .u8 y] 5)) := by
  subst hU
  exact run_convert_bytes_back (P := Tryz.prog) (w.alloc (.cells #[.int .u8 x, .int .u8 y] 5)) 32 9 5 ⟨w.heap.size, 0, none⟩ 2 [UInt8.ofNat a, UInt8.ofNat b] Tryz.underlying32 Tryz.underlying5 Tryz.underlying9 (by
    intro j hj
    rw [addr_add]; unfold World.cell?; simp only [heap_alloc_new]
    match j, hj with
    | 0, _ => exact congrArg some (u8_of a x h h2).symm
    | 1, _ => exact congrArg some (u8_of b y k k2).symm)
theorem back_3 (w : World) (U : Bytes) (x y z : Int) (a b c : Nat) (h : (a : Int) = x) (h2 : a < 256) (k : (b : Int) = y) (k2 : b < 256) (l : (c : Int) = z) (l2 : c < 256) (hU : U = [UInt8.ofNat a, UInt8.ofNat b, UInt8.ofNat c]) : (convert 32 9 (.slice (some ⟨w.heap.size, 0, none⟩) 3 3)).run Tryz.prog (w.alloc (.cells #[.int .u8 x, .int .u8 y, .int .u8 z] 5)) = .ok (.string ⟨U.toArray⟩) (w.alloc (.cells #[.int .u8 x, .int .u8 y, .int .u8 z] 5)) := by
  subst hU
  exact run_convert_bytes_back (P := Tryz.prog) (w.alloc (.cells #[.int .u8 x, .int .u8 y, .int .u8 z] 5)) 32 9 5 ⟨w.heap.size, 0, none⟩ 3 [UInt8.ofNat a, UInt8.ofNat b, UInt8.ofNat c] Tryz.underlying32 Tryz.underlying5 Tryz.underlying9 (by
    intro j hj
    rw [addr_add]; unfold World.cell?; simp only [heap_alloc_new]
    match j, hj with
    | 0, _ => exact congrArg some (u8_of a x h h2).symm
    | 1, _ => exact congrArg some (u8_of b y k k2).symm
    | 2, _ => exact congrArg some (u8_of c z l l2).symm)
theorem back_4 (w : World) (U : Bytes) (x y z u : Int) (a b c d : Nat) (h : (a : Int) = x) (h2 : a < 256) (k : (b : Int) = y) (k2 : b < 256) (l : (c : Int) = z) (l2 : c < 256) (m : (d : Int) = u) (m2 : d < 256) (hU : U = [UInt8.ofNat a, UInt8.ofNat b, UInt8.ofNat c, UInt8.ofNat d]) : (convert 32 9 (.slice (some ⟨w.heap.size, 0, none⟩) 4 4)).run Tryz.prog (w.alloc (.cells #[.int .u8 x, .int .u8 y, .int .u8 z, .int .u8 u] 5)) = .ok (.string ⟨U.toArray⟩) (w.alloc (.cells #[.int .u8 x, .int .u8 y, .int .u8 z, .int .u8 u] 5)) := by
  subst hU
  exact run_convert_bytes_back (P := Tryz.prog) (w.alloc (.cells #[.int .u8 x, .int .u8 y, .int .u8 z, .int .u8 u] 5)) 32 9 5 ⟨w.heap.size, 0, none⟩ 4 [UInt8.ofNat a, UInt8.ofNat b, UInt8.ofNat c, UInt8.ofNat d] Tryz.underlying32 Tryz.underlying5 Tryz.underlying9 (by
    intro j hj
    rw [addr_add]; unfold World.cell?; simp only [heap_alloc_new]
    match j, hj with
    | 0, _ => exact congrArg some (u8_of a x h h2).symm
    | 1, _ => exact congrArg some (u8_of b y k k2).symm
    | 2, _ => exact congrArg some (u8_of c z l l2).symm
    | 3, _ => exact congrArg some (u8_of d u m m2).symm)

set_option maxRecDepth 1000000 in
set_option maxHeartbeats 4000000 in
theorem rutf_c (n : Nat) (hn : signB n = true) (w : World) :
    Calls Tryz.prog 79 #[.int .i64 n] w fun e w' => e = .returned (.string ⟨(utf n).toArray⟩) ∧ Below w.heap.size w w' := by
  have hb := sign_bounds n hn
  have hu := utf_eq n hn
  obtain ⟨U, hU⟩ : ∃ U, U = utf n := ⟨_, rfl⟩
  rw [← hU] at hu ⊢
  clear hU hn
  by_cases c1 : n < 128
  · rw [if_pos c1] at hu
    have cv := back_1 w U (n : Int) n rfl (by omega) hu
    clear hu
    go_enter Tryz.func79, Tryz.ntmps79
    go_wp2_with fail
    go_ret
    exact ⟨rfl, (Below.refl _ w).alloc (Nat.le_refl _) _⟩
  rw [if_neg c1] at hu
  by_cases c2 : n < 2048
  · rw [if_pos c2] at hu
    have cv := back_2 w U (192 + (n : Int) / 64) (128 + (n : Int) % 64) (0xC0 + n / 64) (0x80 + n % 64) (by omega) (by omega) (by omega) (by omega) hu
    clear hu
    go_enter Tryz.func79, Tryz.ntmps79
    go_wp2_with fail
    go_ret
    exact ⟨rfl, (Below.refl _ w).alloc (Nat.le_refl _) _⟩
  rw [if_neg c2] at hu
  by_cases c3 : n < 65536
  · rw [if_pos c3] at hu
    have cv := back_3 w U (224 + (n : Int) / 4096) (128 + (n : Int) / 64 % 64) (128 + (n : Int) % 64) (0xE0 + n / 4096) (0x80 + n / 64 % 64) (0x80 + n % 64) (by omega) (by omega) (by omega) (by omega) (by omega) (by omega) hu
    clear hu
    go_enter Tryz.func79, Tryz.ntmps79
    go_wp2_with fail
    go_ret
    exact ⟨rfl, (Below.refl _ w).alloc (Nat.le_refl _) _⟩
  · rw [if_neg c3] at hu
    have cv := back_4 w U (240 + (n : Int) / 262144) (128 + (n : Int) / 4096 % 64) (128 + (n : Int) / 64 % 64) (128 + (n : Int) % 64) (0xF0 + n / 262144) (0x80 + n / 4096 % 64) (0x80 + n / 64 % 64) (0x80 + n % 64) (by omega) (by omega) (by omega) (by omega) (by omega) (by omega) (by omega) (by omega) hu
    clear hu
    go_enter Tryz.func79, Tryz.ntmps79
    go_wp2_with fail
    go_ret
    exact ⟨rfl, (Below.refl _ w).alloc (Nat.le_refl _) _⟩
end Go.Proofs.YtcicibeggkmlcaaGreatDoor
