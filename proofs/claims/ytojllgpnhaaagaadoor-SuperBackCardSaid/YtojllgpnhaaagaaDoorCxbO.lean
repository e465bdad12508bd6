/-
  Slots: the laws' fixed answers.
-/
import Derived.Test.YtojllgpnhaaagaaDoorCxbN
import Derived.KernelRfl
namespace Go.Cx.Rb
open Go Go.Cx Go.Proofs

def wrapX : WrapA := ⟨[112], [1, 0, 0, 0, 0, 0, 0, 0, 0, 0, 0, 0, 0, 0, 0, 0], 2, [7, 0, 0, 0, 0, 0, 0, 0, 0, 0, 0, 0, 0, 0, 0, 0, 0, 0, 0, 0, 0, 0, 0, 0, 0, 0, 0, 0, 0, 0, 0, 0], 1⟩
def z_a0 : List Int := [92, 216, 150, 184, 113, 135, 121, 186, 144, 159, 183, 100, 139, 64, 13, 46, 230, 134, 94, 55, 91, 121, 81, 200, 196, 239, 182, 89, 246, 138, 24, 234]
def z_a1 : List Int := [158, 189, 201, 207, 61, 88, 160, 65, 199, 16, 159, 161, 216, 225, 130, 228, 197, 45, 107, 178, 142, 6, 251, 54, 104, 21, 71, 96, 247, 76, 4, 144]
def z_kx : List Int := [194, 101, 95, 119, 76, 223, 217, 251, 87, 143, 40, 197, 83, 161, 143, 202, 35, 171, 53, 133, 213, 127, 170, 254, 172, 250, 241, 57, 1, 198, 28, 122]
def z_wW : List Int := [134, 89, 90, 137, 255, 198, 6, 161, 44, 18, 179, 78, 252, 250, 76, 152, 42, 146, 38, 248, 193, 229, 161, 6, 179, 251, 243, 91, 37, 168, 108, 192]
def z_wx : List Int := [129, 89, 90, 137, 255, 198, 6, 161, 44, 18, 179, 78, 252, 250, 76, 152, 42, 146, 38, 248, 193, 229, 161, 6, 179, 251, 243, 91, 37, 168, 108, 192]
def z_c1 : List Int := [0, 21, 74, 162, 8, 106, 8, 216, 9, 149, 195, 169, 106, 202, 247, 194, 209, 159, 181, 137, 113, 240, 204, 169, 235, 174, 223, 134, 198, 25, 30, 124]
def z_hx : List Int := [1, 1, 0, 0, 0, 0, 0, 2, 1, 0, 0, 0, 0, 0, 0, 0, 0, 0, 0, 0, 0, 0, 0, 0, 129, 89, 90, 137, 255, 198, 6, 161, 44, 18, 179, 78, 252, 250, 76, 152, 42, 146, 38, 248, 193, 229, 161, 6, 179, 251, 243, 91, 37, 168, 108, 192]
def z_cx : List Int := [179, 249, 157, 51, 65, 95, 200, 149, 176, 118, 56, 75, 197, 90, 11, 83, 192, 57, 185, 84, 89, 87, 118, 250, 251, 124, 253, 15, 58, 197, 5, 127]
def z_b0 : List Int := [215, 181, 6, 31, 126, 84, 254, 17, 126, 250, 212, 226, 198, 176, 176, 58, 148, 83, 94, 11, 108, 166, 75, 207, 201, 22, 170, 255, 96, 41, 255, 181]
def z_b1 : List Int := [1, 235, 8, 126, 30, 207, 73, 148, 218, 120, 86, 118, 145, 230, 33, 236, 40, 18, 23, 225, 22, 252, 181, 83, 78, 42, 111, 93, 192, 191, 199, 214]
def z_ky : List Int := [214, 94, 14, 97, 96, 155, 183, 133, 164, 130, 130, 148, 87, 86, 145, 214, 188, 65, 73, 234, 122, 90, 254, 156, 135, 60, 197, 162, 160, 150, 56, 99]
def z_d1 : List Int := [107, 160, 186, 150, 158, 93, 147, 56, 177, 127, 43, 21, 47, 189, 114, 166, 208, 160, 225, 34, 223, 20, 217, 63, 80, 249, 221, 21, 1, 73, 138, 31]
def z_dx : List Int := [180, 44, 104, 199, 220, 162, 29, 145, 30, 75, 69, 202, 44, 155, 159, 92, 120, 140, 244, 218, 224, 183, 50, 140, 137, 26, 202, 5, 52, 243, 82, 174]
theorem m_a0 : macS [112] (saltX wrapX.s) = z_a0 := by kernel_rfl
theorem m_a1 : macS [112] z_a0 = z_a1 := by kernel_rfl
theorem m_kx : xorP z_a0 z_a1 32 = z_kx := by kernel_rfl
theorem m_wW : macS z_kx wrapL = z_wW := by kernel_rfl
theorem m_wx : xorP wrapX.m z_wW 32 = z_wx := by kernel_rfl
theorem m_c1 : macS z_kx checkL = z_c1 := by kernel_rfl
theorem m_hx : headS ⟨true, 1, 2, wrapX.s, z_wx, zerosI 24⟩ = z_hx := by kernel_rfl
theorem m_cx : macS z_c1 z_hx = z_cx := by kernel_rfl
theorem m_b0 : macS [113] (saltX wrapX.s) = z_b0 := by kernel_rfl
theorem m_b1 : macS [113] z_b0 = z_b1 := by kernel_rfl
theorem m_ky : xorP z_b0 z_b1 32 = z_ky := by kernel_rfl
theorem m_d1 : macS z_ky checkL = z_d1 := by kernel_rfl
theorem m_dx : macS z_d1 z_hx = z_dx := by kernel_rfl
theorem sOut_p : sOut [112] wrapX.s 2 = z_kx := by
  show xorP (macS [112] (saltX wrapX.s)) (macS [112] (macS [112] (saltX wrapX.s))) 32 = _
  rw [m_a0, m_a1, m_kx]
theorem sOut_q : sOut [113] wrapX.s 2 = z_ky := by
  show xorP (macS [113] (saltX wrapX.s)) (macS [113] (macS [113] (saltX wrapX.s))) 32 = _
  rw [m_b0, m_b1, m_ky]
theorem wrapX_bad : wrapBad wrapX = false := by decide +kernel
theorem wrapX_ok : wrapE wrapX = 0 := by rw [wrapE, wrapX_bad]; rfl
theorem wrap1_x : wrap1 wrapX = ⟨true, 1, 2, wrapX.s, z_wx, zerosI 24⟩ := by
  show (⟨true, 1, 2, wrapX.s, crS (sOut [112] wrapX.s 2) wrapX.m, zerosI 24⟩ : SlotP) = _
  rw [sOut_p, crS, m_wW, m_wx]
theorem wrapP_x : wrapP wrapX = ⟨true, 1, 2, wrapX.s, z_wx, z_cx.take 24⟩ := by
  rw [wrapP_ok wrapX_bad, wrap1_x]
  show (⟨true, 1, 2, wrapX.s, z_wx, chkS (sOut [112] wrapX.s 2) ⟨true, 1, 2, wrapX.s, z_wx, zerosI 24⟩⟩ : SlotP) = _
  rw [sOut_p, chkS, m_c1, m_hx, m_cx]
theorem wrong_pass : unwE [113] (wrapP wrapX) = 14 := by
  have hr := (wrap_right wrapX_ok).2
  have hb : unwBad [113] (wrapP wrapX) = true := by
    have e : chkS (sOut [113] wrapX.s 2) (wrapP wrapX) = z_dx.take 24 := by
      rw [sOut_q, wrapP_x, chkS, m_d1]
      show (macS z_d1 (headS ⟨true, 1, 2, wrapX.s, z_wx, zerosI 24⟩)).take 24 = _
      rw [m_hx, m_dx]
    rw [unwBad, wrapP_x] at *
    show (_ || !eqL (chkS (sOut [113] wrapX.s 2) _) (z_cx.take 24)) = true
    rw [e]
    decide +kernel
  simp only [unwE, hr.1, hr.2, hb, if_true]
theorem wrapX_rng : ∀ y ∈ wrapX.m, inR .u8 y := by
  intro y hy
  simp [wrapX] at hy
  rcases hy with rfl | rfl <;> exact ⟨by decide, by decide⟩
theorem right_pass : unwE [112] (wrapP wrapX) = 0 ∧ unwM [112] (wrapP wrapX) = wrapX.m := unw_wrap wrapX_ok (by decide) wrapX_rng
end Go.Cx.Rb
