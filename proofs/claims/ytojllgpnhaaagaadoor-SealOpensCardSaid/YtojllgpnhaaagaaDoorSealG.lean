/-
  What the laws of this claim stand on, part G: proved parts, no statement of its own.
-/
import Derived.Test.YtojllgpnhaaagaaDoorSealF
/- CxbE2 -/
namespace Go.Cx.Rb
open Go Go.Cx Go.Proofs
def pX : List Int := [1, 3, 5, 15, 17, 51, 85, 255, 26, 46, 114, 150, 161, 248, 19, 53, 95, 225, 56, 72, 216, 115, 149, 164, 247, 2, 6, 10, 30, 34, 102, 170, 229, 52, 92, 228, 55, 89, 235, 38, 106, 190, 217, 112, 144, 171, 230, 49, 83, 245, 4, 12, 20, 60, 68, 204, 79, 209, 104, 184, 211, 110, 178, 205, 76, 212, 103, 169, 224, 59, 77, 215, 98, 166, 241, 8, 24, 40, 120, 136, 131, 158, 185, 208, 107, 189, 220, 127, 129, 152, 179, 206, 73, 219, 118, 154, 181, 196, 87, 249, 16, 48, 80, 240, 11, 29, 39, 105, 187, 214, 97, 163, 254, 25, 43, 125, 135, 146, 173, 236, 47, 113, 147, 174, 233, 32, 96, 160, 251, 22, 58, 78, 210, 109, 183, 194, 93, 231, 50, 86, 250, 21, 63, 65, 195, 94, 226, 61, 71, 201, 64, 192, 91, 237, 44, 116, 156, 191, 218, 117, 159, 186, 213, 100, 172, 239, 42, 126, 130, 157, 188, 223, 122, 142, 137, 128, 155, 182, 193, 88, 232, 35, 101, 175, 234, 37, 111, 177, 200, 67, 197, 84, 252, 31, 33, 99, 165, 244, 7, 9, 27, 45, 119, 153, 176, 203, 70, 202, 69, 207, 74, 222, 121, 139, 134, 145, 168, 227, 62, 66, 198, 81, 243, 14, 18, 54, 90, 238, 41, 123, 141, 140, 143, 138, 133, 148, 167, 242, 13, 23, 57, 75, 221, 124, 132, 151, 162, 253, 28, 36, 108, 180, 199, 82, 246, 1]
def qX8 : List Int := [1, 246, 82, 199, 180, 108, 36, 28, 253, 162, 151, 132, 124, 221, 75, 57, 23, 13, 242, 167, 148, 133, 138, 143, 140, 141, 123, 41, 238, 90, 54, 18, 14, 243, 81, 198, 66, 62, 227, 168, 145, 134, 139, 121, 222, 74, 207, 69, 202, 70, 203, 176, 153, 119, 45, 27, 9, 7, 244, 165, 99, 33, 31, 252, 84, 197, 67, 200, 177, 111, 37, 234, 175, 101, 35, 232, 88, 193, 182, 155, 128, 137, 142, 122, 223, 188, 157, 130, 126, 42, 239, 172, 100, 213, 186, 159, 117, 218, 191, 156, 116, 44, 237, 91, 192, 64, 201, 71, 61, 226, 94, 195, 65, 63, 21, 250, 86, 50, 231, 93, 194, 183, 109, 210, 78, 58, 22, 251, 160, 96, 32, 233, 174, 147, 113, 47, 236, 173, 146, 135, 125, 43, 25, 254, 163, 97, 214, 187, 105, 39, 29, 11, 240, 80, 48, 16, 249, 87, 196, 181, 154, 118, 219, 73, 206, 179, 152, 129, 127, 220, 189, 107, 208, 185, 158, 131, 136, 120, 40, 24, 8, 241, 166, 98, 215, 77, 59, 224, 169, 103, 212, 76, 205, 178, 110, 211, 184, 104, 209, 79, 204, 68, 60, 20, 12, 4, 245, 83, 49, 230, 171, 144, 112, 217, 190, 106, 38, 235, 89, 55, 228, 92, 52, 229, 170, 102, 34, 30, 10, 6, 2, 247, 164, 149, 115, 216, 72, 56, 225, 95, 53, 19, 248, 161, 150, 114, 46, 26, 255, 85, 51, 17, 15, 5, 3, 1]
def boxL : List Int := [99, 124, 119, 123, 242, 107, 111, 197, 48, 1, 103, 43, 254, 215, 171, 118, 202, 130, 201, 125, 250, 89, 71, 240, 173, 212, 162, 175, 156, 164, 114, 192, 183, 253, 147, 38, 54, 63, 247, 204, 52, 165, 229, 241, 113, 216, 49, 21, 4, 199, 35, 195, 24, 150, 5, 154, 7, 18, 128, 226, 235, 39, 178, 117, 9, 131, 44, 26, 27, 110, 90, 160, 82, 59, 214, 179, 41, 227, 47, 132, 83, 209, 0, 237, 32, 252, 177, 91, 106, 203, 190, 57, 74, 76, 88, 207, 208, 239, 170, 251, 67, 77, 51, 133, 69, 249, 2, 127, 80, 60, 159, 168, 81, 163, 64, 143, 146, 157, 56, 245, 188, 182, 218, 33, 16, 255, 243, 210, 205, 12, 19, 236, 95, 151, 68, 23, 196, 167, 126, 61, 100, 93, 25, 115, 96, 129, 79, 220, 34, 42, 144, 136, 70, 238, 184, 20, 222, 94, 11, 219, 224, 50, 58, 10, 73, 6, 36, 92, 194, 211, 172, 98, 145, 149, 228, 121, 231, 200, 55, 109, 141, 213, 78, 169, 108, 86, 244, 234, 101, 122, 174, 8, 186, 120, 37, 46, 28, 166, 180, 198, 232, 221, 116, 31, 75, 189, 139, 138, 112, 62, 181, 102, 72, 3, 246, 14, 97, 53, 87, 185, 134, 193, 29, 158, 225, 248, 152, 17, 105, 217, 142, 148, 155, 30, 135, 233, 206, 85, 40, 223, 140, 161, 137, 13, 191, 230, 66, 104, 65, 153, 45, 15, 176, 84, 187, 22]
def bxP (i : Nat) : Int := nthI pX i
def bxQ (i : Nat) : Int := nthI qX8 i
def q3I (q : Int) : Int := bxor .u8 (bxor .u8 (bxor .u8 q (bshl .u8 q 1)) (bshl .u8 (bxor .u8 q (bshl .u8 q 1)) 2)) (bshl .u8 (bxor .u8 (bxor .u8 q (bshl .u8 q 1)) (bshl .u8 (bxor .u8 q (bshl .u8 q 1)) 2)) 4)
def nxQ (q : Int) : Int := if 128 ≤ q3I q then bxor .u8 (q3I q) 9 else q3I q
def sOf (q : Int) : Int := bxor .u8 (bxor .u8 (bxor .u8 (bxor .u8 (bxor .u8 q (rot8 q 1)) (rot8 q 2)) (rot8 q 3)) (rot8 q 4)) 99
def bxS : Nat → List Int
  | 0 => zerosI 256
  | i + 1 => setI (bxS i) (bxP (i + 1)).toNat (sOf (bxQ (i + 1)))
theorem chkP : ((List.range 255).all fun i => decide (bxP (i + 1) = bxor .u8 (bxP i) (twI (bxP i)))) = true := by kernel_rfl
theorem chkQ : ((List.range 255).all fun i => decide (bxQ (i + 1) = nxQ (bxQ i))) = true := by kernel_rfl
theorem chk1 : ((List.range 255).all fun i => decide (bxP (i + 1) = 1 ↔ i = 254)) = true := by kernel_rfl
theorem chkR : ((List.range 256).all fun i => decide (0 ≤ bxP i ∧ bxP i < 256)) = true := by kernel_rfl
theorem chkBx : setI (bxS 255) 0 99 = boxL := by kernel_rfl
theorem bxP_next {i : Nat} (h : i < 255) : bxP (i + 1) = bxor .u8 (bxP i) (twI (bxP i)) := of_decide_eq_true (List.all_eq_true.1 chkP i (List.mem_range.2 h))
theorem bxQ_next {i : Nat} (h : i < 255) : bxQ (i + 1) = nxQ (bxQ i) := of_decide_eq_true (List.all_eq_true.1 chkQ i (List.mem_range.2 h))
theorem bxP_one {i : Nat} (h : i < 255) : bxP (i + 1) = 1 ↔ i = 254 := of_decide_eq_true (List.all_eq_true.1 chk1 i (List.mem_range.2 h))
theorem bxP_rng {i : Nat} (h : i < 256) : 0 ≤ bxP i ∧ bxP i < 256 := of_decide_eq_true (List.all_eq_true.1 chkR i (List.mem_range.2 h))
theorem arF_xor : arF .xor = bxor := rfl
theorem arF_shl : arF .shl = bshl := rfl
theorem nxQ_t {q : Int} (h : 128 ≤ q3I q) : nxQ q = bxor .u8 (q3I q) 9 := if_pos h
theorem nxQ_f {q : Int} (h : q3I q < 128) : nxQ q = q3I q := if_neg (by omega)
theorem bxS_t {i : Nat} (hi : i < 255) (h : 128 ≤ q3I (bxQ i)) : bxS (i + 1) = setI (bxS i) (bxor .u8 (bxP i) (twI (bxP i))).toNat (sOf (bxor .u8 (q3I (bxQ i)) 9)) := by
  rw [bxS, bxP_next hi, bxQ_next hi, nxQ_t h]
theorem bxS_f {i : Nat} (hi : i < 255) (h : q3I (bxQ i) < 128) : bxS (i + 1) = setI (bxS i) (bxor .u8 (bxP i) (twI (bxP i))).toNat (sOf (q3I (bxQ i))) := by
  rw [bxS, bxP_next hi, bxQ_next hi, nxQ_f h]
def cBoxes (ap : AP) : Ctr
  | [] => .ok ⟨.ints .u8 256 (ap _ _ (setI (ap _ _ bxS 255) 0) 99), [], []⟩
  | _ => .fail 430
def aBoxes (ap : AP) : List (Nat × Ann) := [
  (0, .inv Nat (fun i => ⟨[(0, .ptr 0 []), (1, .ptr 1 []), (2, .int .u8 (ap _ _ bxP i)), (3, .int .u8 (ap _ _ bxQ i))], [(0, ⟨.own, .ints .u8 256 (ap _ _ zerosI 256)⟩), (1, ⟨.own, .ints .u8 256 (ap _ _ bxS i)⟩)], []⟩)
    (fun i => i < 255) (fun i => 255 - i))]
set_option maxRecDepth 20000 in
set_option maxHeartbeats 2000000 in
theorem vc153 (args : List Arg) (out : Out) (h : (cBoxes apf args).to out) (hok : okAs args) :
    args.length = ic153.nargs ∧ ic153.nargs ≤ ic153.ntmps ∧ ∃ A, run apf [(154, (fun args => cTw apf (args.map litA))), (162, (fun args => cRot8 apf (args.map litA)))] A ic153.body (fnQ apf args out ic153.res) (st0 G1 true args) := by
  unfold cBoxes at h
  split at h
  · skip
    cases h
    refine ⟨rfl, by decide, aBoxes apf, ?_⟩
    show run apf _ _ _ _ (st0 [(1, .ints .u32 64 kk)] _ _)
    generalize hK : kk = K
    generalize hap : apf = ap
    cbv
    repeat' first
      | exact True.intro
      | (intro (hh : _ = true); first | with_reducible exact False.elim (tf_no (Eq.trans (Eq.symm (show _ = true by assumption)) hh)) | cbv)
      | (intro (hh : _ = false); first | with_reducible exact False.elim (tf_no (Eq.trans (Eq.symm hh) (show _ = false by assumption))) | cbv)
      | with_reducible refine And.intro ?_ ?_
      | (refine ⟨0, (by decide), ?_⟩; cbv)
    all_goals first
      | (intro (i : Nat) hi _ _
         have hi : i < 255 := hi
         cbv
         repeat' first
           | exact True.intro
           | (intro (hh : _ = true); first | with_reducible exact False.elim (tf_no (Eq.trans (Eq.symm (show _ = true by assumption)) hh)) | cbv)
           | (intro (hh : _ = false); first | with_reducible exact False.elim (tf_no (Eq.trans (Eq.symm hh) (show _ = false by assumption))) | cbv)
           | with_reducible refine And.intro ?_ ?_
           | (refine ⟨i + 1, ?_, (?_ : _ < _), ?_⟩; rotate_left 2; try cbv)
           | (refine ⟨0, (by decide), ?_⟩; cbv))
      | skip
    all_goals subst hap
    all_goals try simp only [apf_e, arF_xor, arF_shl, cmF_e, cmF_g, ge_t, ge_f, eq_t, eq_f, eqN, eqI', eqL', ltN, natI] at *
    all_goals first
      | omega
      | exact rfl
      | exact bxP_next hi
      | (have h1 := bxP_rng (i := i + 1) (by omega)
         rw [bxP_next hi] at h1
         omega)
      | (have h1 := bxP_one hi
         rw [bxP_next hi] at h1
         omega)
      | (show 255 - (i + 1) < 255 - i; omega)
      | (have h : 128 ≤ q3I (bxQ i) := by assumption
         first
           | (show bxQ (i + 1) = bxor .u8 (q3I (bxQ i)) 9
              rw [bxQ_next hi, nxQ_t h])
           | (show bxS (i + 1) = setI (bxS i) (bxor .u8 (bxP i) (twI (bxP i))).toNat (sOf (bxor .u8 (q3I (bxQ i)) 9))
              exact bxS_t hi h)
           | (have h1 := bxP_one hi
              rw [bxP_next hi] at h1
              have h255 : (255 : Nat) = i + 1 := by omega
              rw [h255, bxS_t hi h]
              simp only [sOf, q3I]))
      | (have h : q3I (bxQ i) < 128 := by assumption
         first
           | (show bxQ (i + 1) = q3I (bxQ i)
              rw [bxQ_next hi, nxQ_f h])
           | (show bxS (i + 1) = setI (bxS i) (bxor .u8 (bxP i) (twI (bxP i))).toNat (sOf (q3I (bxQ i)))
              exact bxS_f hi h)
           | (have h1 := bxP_one hi
              rw [bxP_next hi] at h1
              have h255 : (255 : Nat) = i + 1 := by omega
              rw [h255, bxS_f hi h]
              simp only [sOf, q3I]))
      | skip
  · exact h.elim
set_option maxHeartbeats 2000000 in
theorem s153 : Sound Tryd.prog G1 153 (pu 153) (cBoxes apf) := fn_sound rfl Tryd.call153 ok153 co153 (env_cons s154 (env_cons s162 env_nil)) vc153
end Go.Cx.Rb
/- CxbE3 -/
namespace Go.Cx.Rb
open Go Go.Cx Go.Proofs
def invL : List Int := [0, 1, 141, 246, 203, 82, 123, 209, 232, 79, 41, 192, 176, 225, 229, 199, 116, 180, 170, 75, 153, 43, 96, 95, 88, 63, 253, 204, 255, 64, 238, 178, 58, 110, 90, 241, 85, 77, 168, 201, 193, 10, 152, 21, 48, 68, 162, 194, 44, 69, 146, 108, 243, 57, 102, 66, 242, 53, 32, 111, 119, 187, 89, 25, 29, 254, 55, 103, 45, 49, 245, 105, 167, 100, 171, 19, 84, 37, 233, 9, 237, 92, 5, 202, 76, 36, 135, 191, 24, 62, 34, 240, 81, 236, 97, 23, 22, 94, 175, 211, 73, 166, 54, 67, 244, 71, 145, 223, 51, 147, 33, 59, 121, 183, 151, 133, 16, 181, 186, 60, 182, 112, 208, 6, 161, 250, 129, 130, 131, 126, 127, 128, 150, 115, 190, 86, 155, 158, 149, 217, 247, 2, 185, 164, 222, 106, 50, 109, 216, 138, 132, 114, 42, 20, 159, 136, 249, 220, 137, 154, 251, 124, 46, 195, 143, 184, 101, 72, 38, 200, 18, 74, 206, 231, 210, 98, 12, 224, 31, 239, 17, 117, 120, 113, 165, 142, 118, 61, 189, 188, 134, 87, 11, 40, 47, 163, 218, 212, 228, 15, 169, 39, 83, 4, 27, 252, 172, 230, 122, 7, 174, 99, 197, 219, 226, 234, 148, 139, 196, 213, 157, 248, 144, 107, 177, 13, 214, 235, 198, 14, 207, 173, 8, 78, 215, 227, 93, 80, 30, 179, 91, 35, 56, 52, 104, 70, 3, 140, 221, 156, 125, 160, 205, 26, 65, 28]
def nP (j : Nat) : Nat := j + 1
def lenJ (j : Nat) : Int := ((j + 1 : Nat) : Int)
def pT (j : Nat) : List Int := pX.take (j + 1)
def renJ (i a b c : Nat) : List (Nat × Nat) := match i with | 0 => [(a, b)] | _ + 1 => [(a, c)]
def invS : Nat → List Int
  | 0 => zerosI 256
  | i + 1 => setI (invS i) (nthI (pT 254) i).toNat (nthI (pT 254) ((255 - i) % 255))
def cK (i : Nat) : Nat → Int
  | 0 => nthI invL i
  | k + 1 => bor .u8 (bshl .u8 (cK i k) 1) (bshr .u8 (cK i k) 7)
def sK (i : Nat) : Nat → Int
  | 0 => nthI invL i
  | k + 1 => bxor .u8 (sK i k) (cK i (k + 1))
def outS : Nat → List Int
  | 0 => zerosI 256
  | i + 1 => setI (outS i) i (bxor .u8 (sK i 4) 99)
theorem chkT : ((List.range 254).all fun i => decide (nthI pX (i + 1) = timesI (nthI pX i) 3)) = true := by kernel_rfl
theorem chkI : invS 255 = invL := by kernel_rfl
theorem chkO : outS 256 = boxL := by kernel_rfl
theorem arF_sub : arF .sub = wsub := rfl
theorem arF_add : arF .add = wadd := rfl
theorem arF_rem8 : arF .rem = wrem := rfl
theorem arF_or : arF .or = bor := rfl
theorem arF_shr : arF .shr = bshr := rfl
theorem pX_len : pX.length = 256 := by kernel_rfl
theorem pT_len {j : Nat} (h : j ≤ 255) : (pT j).length = nP j := by rw [pT, List.length_take, pX_len]; show min (j + 1) 256 = j + 1; omega
theorem pT_at {j i : Nat} (h : i ≤ j) : nthI (pT j) i = bxP i := nthI_take (by omega)
theorem pT_next {j : Nat} (h : j < 254) : pT (j + 1) = pT j ++ [timesI (bxP j) 3] := by
  have e : bxP (j + 1) = timesI (bxP j) 3 := of_decide_eq_true (List.all_eq_true.1 chkT j (List.mem_range.2 h))
  have hl : j + 1 < pX.length := by rw [pX_len]; omega
  rw [← e, pT, pT, List.take_add_one, List.getElem?_eq_getElem hl]
  simp [bxP, nthI, List.getD_eq_getElem?_getD, hl]
theorem lenJ_val (j : Nat) : lenJ j = (j : Int) + 1 := by unfold lenJ; omega
theorem lenJ_sub {j : Nat} (h : j ≤ 254) : wsub .i64 (lenJ j) 1 = (j : Int) := by
  rw [wsub_i64 (by unfold lenJ; omega)]
  unfold lenJ
  omega
theorem lenJ_add {j : Nat} (h : j ≤ 254) : wadd .i64 (lenJ j) 1 = lenJ (j + 1) := by
  rw [wadd_i64 (by unfold lenJ; omega)]
  unfold lenJ
  omega
theorem back_i {i : Nat} (h : i < 255) : wrem .i64 (wsub .i64 255 (i : Int)) 255 = (((255 - i) % 255 : Nat) : Int) := by
  rw [wsub_i64 (by omega), show (255 : Int) - (i : Int) = ((255 - i : Nat) : Int) by omega]
  rfl
def cBoxR (ap : AP) : Ctr
  | [] => .ok ⟨.sl 0 [] 0 256 1 none, [], [.ints .u8 256 (ap _ _ outS 256)]⟩
  | _ => .fail 431
def aBoxR (ap : AP) : List (Nat × Ann) := [
  (0, .inv Nat (fun j => ⟨[(1, .sl 7000 [] 0 (ap _ _ nP j) 1 none), (2, .int .i64 (ap _ _ lenJ j))], [(7000, ⟨.own, .ints .u8 (ap _ _ nP j) (ap _ _ pT j)⟩)], renJ j 7000 10 23⟩) (fun j => j ≤ 254) (fun j => 254 - j)),
  (1, .inv Nat (fun i => ⟨[(1, .sl 7000 [] 0 (ap _ _ nP 254) 1 none), (3, .sl 24 [] 0 256 1 none), (4, .int .i64 (ap _ _ lenI i))], [(7000, ⟨.own, .ints .u8 (ap _ _ nP 254) (ap _ _ pT 254)⟩), (24, ⟨.own, .ints .u8 256 (ap _ _ invS i)⟩)], []⟩) (fun i => i ≤ 255) (fun i => 255 - i)),
  (2, .nest Nat (fun l => ⟨[(3, .sl 24 [] 0 256 1 none), (5, .sl 41 [] 0 256 1 none), (6, .int .i64 (ap _ _ lenI l))], [(24, ⟨.own, .ints .u8 256 (ap _ _ invS 255)⟩), (41, ⟨.own, .ints .u8 256 (ap _ _ outS l)⟩)], []⟩) (fun l => l ≤ 256) (fun l => 256 - l)
    (fun l => [(3, .inv Nat (fun k => ⟨[(3, .sl 24 [] 0 256 1 none), (5, .sl 41 [] 0 256 1 none), (6, .int .i64 (ap _ _ lenI l)), (7, .int .u8 (ap _ _ (ap _ _ cK l) k)), (8, .int .u8 (ap _ _ (ap _ _ sK l) k)), (9, .int .i64 (ap _ _ lenI k))], [(24, ⟨.own, .ints .u8 256 (ap _ _ invS 255)⟩), (41, ⟨.own, .ints .u8 256 (ap _ _ outS l)⟩)], []⟩) (fun k => k ≤ 4) (fun k => 4 - k))]))]
set_option maxRecDepth 20000 in
set_option maxHeartbeats 2000000 in
theorem vc150 (args : List Arg) (out : Out) (h : (cBoxR apf args).to out) (hok : okAs args) :
    args.length = ic150.nargs ∧ ic150.nargs ≤ ic150.ntmps ∧ ∃ A, run apf [(159, (fun args => cTimes apf (args.map litA)))] A ic150.body (fnQ apf args out ic150.res) (st0 G1 true args) := by
  unfold cBoxR at h
  split at h
  · skip
    cases h
    refine ⟨rfl, by decide, aBoxR apf, ?_⟩
    show run apf _ _ _ _ (st0 [(1, .ints .u32 64 kk)] _ _)
    generalize hK : kk = K
    generalize hap : apf = ap
    cbv
    repeat' first
      | exact True.intro
      | (intro (hh : _ = true); first | with_reducible exact False.elim (tf_no (Eq.trans (Eq.symm (show _ = true by assumption)) hh)) | cbv)
      | (intro (hh : _ = false); first | with_reducible exact False.elim (tf_no (Eq.trans (Eq.symm hh) (show _ = false by assumption))) | cbv)
      | with_reducible refine And.intro ?_ ?_
      | (refine ⟨0, Nat.zero_le _, ?_⟩; cbv)
    all_goals first
      | (intro (j : Nat) hi _ _
         have hj : j ≤ 254 := hi
         cbv
         repeat' first
           | exact True.intro
           | (intro (hh : _ = true); first | with_reducible exact False.elim (tf_no (Eq.trans (Eq.symm (show _ = true by assumption)) hh)) | cbv)
           | (intro (hh : _ = false); first | with_reducible exact False.elim (tf_no (Eq.trans (Eq.symm hh) (show _ = false by assumption))) | cbv)
           | with_reducible refine And.intro ?_ ?_
           | (refine ⟨j + 1, ?_, (?_ : _ < _), ?_⟩; rotate_left 2; try cbv)
           | (refine ⟨0, Nat.zero_le _, ?_⟩; cbv))
      | skip
    all_goals first
      | (intro (i : Nat) hi _ _
         have hi : i ≤ 255 := hi
         cbv
         repeat' first
           | exact True.intro
           | (intro (hh : _ = true); first | with_reducible exact False.elim (tf_no (Eq.trans (Eq.symm (show _ = true by assumption)) hh)) | cbv)
           | (intro (hh : _ = false); first | with_reducible exact False.elim (tf_no (Eq.trans (Eq.symm hh) (show _ = false by assumption))) | cbv)
           | with_reducible refine And.intro ?_ ?_
           | (refine ⟨i + 1, ?_, (?_ : _ < _), ?_⟩; rotate_left 2; try cbv)
           | (refine ⟨0, Nat.zero_le _, ?_⟩; cbv))
      | skip
    all_goals first
      | (intro (l : Nat) hi _ _
         have hl : l ≤ 256 := hi
         cbv
         repeat' first
           | exact True.intro
           | (intro (hh : _ = true); first | with_reducible exact False.elim (tf_no (Eq.trans (Eq.symm (show _ = true by assumption)) hh)) | cbv)
           | (intro (hh : _ = false); first | with_reducible exact False.elim (tf_no (Eq.trans (Eq.symm hh) (show _ = false by assumption))) | cbv)
           | with_reducible refine And.intro ?_ ?_
           | (refine ⟨l + 1, ?_, (?_ : _ < _), ?_⟩; rotate_left 2; try cbv)
           | (refine ⟨0, Nat.zero_le _, ?_⟩; cbv))
      | skip
    all_goals first
      | (intro (k : Nat) hi _ _
         have hk : k ≤ 4 := hi
         cbv
         repeat' first
           | exact True.intro
           | (intro (hh : _ = true); first | with_reducible exact False.elim (tf_no (Eq.trans (Eq.symm (show _ = true by assumption)) hh)) | cbv)
           | (intro (hh : _ = false); first | with_reducible exact False.elim (tf_no (Eq.trans (Eq.symm hh) (show _ = false by assumption))) | cbv)
           | with_reducible refine And.intro ?_ ?_
           | (refine ⟨k + 1, ?_, (?_ : Nat.sub 4 (k + 1) < Nat.sub 4 k), ?_⟩; rotate_left 2; try cbv)
           | (refine ⟨l + 1, ?_, (?_ : Nat.sub 256 (l + 1) < Nat.sub 256 l), ?_⟩; rotate_left 2; try cbv)
           | (refine ⟨0, Nat.zero_le _, ?_⟩; cbv))
      | skip
    all_goals subst hap
    all_goals try simp only [apf_e, arF_sub, arF_add, arF_rem8, arF_or, arF_shr, arF_xor, arF_shl, cmF_l, lt_t, lt_f, eqN, eqI', eqL', ltN, natI, lenI] at *
    all_goals try simp only [Int.toNat_natCast, addN, Nat.zero_add, lenJ_sub hj]
    all_goals try have hJ := lenJ_val j
    all_goals first
      | omega
      | (simp only [leN, V.cnt, appN, mksN, nP]; omega)
      | (show 254 - (j + 1) < 254 - j; omega)
      | (show 255 - (i + 1) < 255 - i; omega)
      | (show 256 - (l + 1) < 256 - l; omega)
      | (show 4 - (k + 1) < 4 - k; omega)
      | (have hi' : i < 255 := by omega
         have e1 : nthI (pT 254) i = bxP i := pT_at (by omega)
         have e2 := bxP_rng (i := i) (by omega)
         first
           | exact (inc_i64 (i := i) (by omega)).symm
           | (rw [back_i hi']; omega)
           | (rw [back_i hi', Int.toNat_natCast]; show (255 - i) % 255 < 255; omega)
           | (show i < 255; omega)
           | (rw [e1]; omega)
           | (rw [back_i hi', Int.toNat_natCast]; exact rfl))
      | (have hl' : l < 256 := by omega
         first
           | (have hk' : k < 4 := by omega
              first
                | exact (inc_i64 (i := k) (by omega)).symm
                | exact rfl)
           | (have e4 : k = 4 := by omega
              subst e4
              first
                | exact (inc_i64 (i := l) (by omega)).symm
                | exact rfl)
           | (rw [chkI]; exact rfl))
      | (have e : l = 256 := by omega
         rw [e])
      | (have e : i = 255 := by omega
         rw [e])
      | (have e : j = 254 := by omega
         rw [e])
      | (have hj' : j < 254 := by omega
         first
           | (show j < j + 1; omega)
           | exact (lenJ_add (by omega)).symm
           | (show pT (j + 1) = catL (subL (pT j) 0 (nP j)) (subL [timesI (nthI (pT j) j) 3] 0 1)
              rw [pT_next hj', pT_at (Nat.le_refl j), subL_all (Nat.le_of_eq (pT_len (by omega)))]
              exact rfl)
           | exact rfl)
      | (show nP 0 = 1; decide)
      | (show pT 0 = [1]; decide)
      | (show lenJ 0 = 1; decide)
      | exact rfl
      | skip
  · exact h.elim
set_option maxHeartbeats 2000000 in
theorem s150 : Sound Tryd.prog G1 150 (pu 150) (cBoxR apf) := fn_sound rfl Tryd.call150 ok150 co150 (env_cons s159 env_nil) vc150
end Go.Cx.Rb
/- CxbE4 -/
namespace Go.Cx.Rb
open Go Go.Cx Go.Proofs
theorem arF_mul : arF .mul = wmul := rfl
theorem arF_quo : arF .quo = wquo := rfl
def unkw : V → List Int
  | .ints _ _ l => l
  | _ => []
def unkws (f : Nat → V) (j : Nat) : List Int := unkw (f j)
def isKw (f : Nat → V) : Prop := ∃ x : Nat → List Int, f = fun j => V.ints .u8 4 (x j)
theorem unkws_eq (x : Nat → List Int) : apf _ _ unkws (fun j => V.ints .u8 4 (x j)) = x := rfl
def inRd (r : Int) : Prop := 0 ≤ r ∧ r ≤ 10
/-- the first i bytes crossed with round r's key -/
def rkS (b : List Int) (x : Nat → List Int) (r : Int) : Nat → List Int
  | 0 => b
  | i + 1 => setI (rkS b x r i) i (bxor .u8 (nthI (rkS b x r i) i) (nthI (x (4 * r.toNat + i / 4)) (i % 4)))
theorem rk_idx {r : Int} {i : Nat} (hr : 0 ≤ r ∧ r ≤ 10) (hi : i ≤ 16) : wadd .i64 (wmul .i64 4 r) (wquo .i64 (i : Int) 4) = ((4 * r.toNat + i / 4 : Nat) : Int) := by
  have e1 : wquo .i64 (i : Int) 4 = ((i / 4 : Nat) : Int) := quo_i64 (k := 4) (by omega)
  rw [e1, wmul_i64 (by omega), wadd_i64 (by omega)]
  omega
theorem rk_rem {i : Nat} : wrem .i64 (i : Int) 4 = ((i % 4 : Nat) : Int) := rem_i64 (k := 4)
def rkL (b : List Int) (x : Nat → List Int) (r : Int) : List Int := rkS b x r 16
def cRk (ap : AP) : Ctr
  | [.o (.cat 256 176 (.ints .u8 256 bx) (.rows 4 44 f)), .o (.ints .u8 16 b), .v (.int .i64 r)] => .chk (ap _ _ isKw f) <| .chk (ap _ _ inRd r) <|
      .ok ⟨.tnil, [.cat 256 176 (.ints .u8 256 bx) (.rows 4 44 f), .ints .u8 16 (ap _ _ (ap _ _ (ap _ _ rkL b) (ap _ _ unkws f)) r)], []⟩
  | _ => .fail 440
def aRk (ap : AP) (bx b : List Int) (x : Nat → List Int) (r : Int) : List (Nat × Ann) := [
  (0, .inv Nat (fun i => ⟨[(0, .ptr (parH 0) []), (1, .ptr (parH 1) []), (2, .int .i64 r), (7, .int .i64 (ap _ _ lenI i))],
    [(parH 0, ⟨.own, .cat 256 176 (.ints .u8 256 bx) (.rows 4 44 fun j => .ints .u8 4 (x j))⟩), (parH 1, ⟨.own, .ints .u8 16 (ap _ _ (ap _ _ (ap _ _ (ap _ _ rkS b) x) r) i)⟩)], []⟩) (fun i => i ≤ 16) (fun i => 16 - i))]
set_option maxRecDepth 20000 in
set_option maxHeartbeats 2000000 in
theorem vc155 (args : List Arg) (out : Out) (h : (cRk apf args).to out) (hok : okAs args) :
    args.length = ic155.nargs ∧ ic155.nargs ≤ ic155.ntmps ∧ ∃ A, run apf [] A ic155.body (fnQ apf args out ic155.res) (st0 G1 false args) := by
  unfold cRk at h
  split at h
  · rename_i bx f b r
    obtain ⟨⟨x, rfl⟩, hr, h⟩ := h
    cases h
    rw [unkws_eq]
    have hr : 0 ≤ r ∧ r ≤ 10 := hr
    refine ⟨rfl, by decide, aRk apf bx b x r, ?_⟩
    show run apf _ _ _ _ (st0 [(1, .ints .u32 64 kk)] _ _)
    generalize hK : kk = K
    generalize hap : apf = ap
    cbv
    repeat' first
      | exact True.intro
      | (intro (hh : _ = true); first | with_reducible exact False.elim (tf_no (Eq.trans (Eq.symm (show _ = true by assumption)) hh)) | cbv)
      | (intro (hh : _ = false); first | with_reducible exact False.elim (tf_no (Eq.trans (Eq.symm hh) (show _ = false by assumption))) | cbv)
      | with_reducible refine And.intro ?_ ?_
      | (refine ⟨0, Nat.zero_le _, ?_⟩; cbv)
    all_goals first
      | (intro (i : Nat) hi _ _
         have hi : i ≤ 16 := hi
         cbv
         repeat' first
           | exact True.intro
           | (intro (hh : _ = true); first | with_reducible exact False.elim (tf_no (Eq.trans (Eq.symm (show _ = true by assumption)) hh)) | cbv)
           | (intro (hh : _ = false); first | with_reducible exact False.elim (tf_no (Eq.trans (Eq.symm hh) (show _ = false by assumption))) | cbv)
           | with_reducible refine And.intro ?_ ?_
           | (refine ⟨i + 1, ?_, (?_ : _ < _), ?_⟩; rotate_left 2; try cbv)
           | (refine ⟨0, Nat.zero_le _, ?_⟩; cbv))
      | skip
    all_goals subst hap
    all_goals try simp only [apf_e, arF_add, arF_mul, arF_quo, arF_rem8, arF_xor, cmF_l, lt_t, lt_f, eqN, eqI', eqL', ltN, natI, lenI] at *
    all_goals try simp only [rk_idx hr hi, rk_rem, Int.toNat_natCast]
    all_goals first
      | omega
      | exact fun _ _ => rfl
      | (show 16 - (i + 1) < 16 - i; omega)
      | exact (inc_i64 (i := i) (by omega)).symm
      | (have e : i = 16 := by omega
         subst e
         exact rfl)
      | exact rfl
      | skip
  · exact h.elim
set_option maxHeartbeats 2000000 in
theorem s155 : Sound Tryd.prog G1 155 (pu 155) (fun args => cRk apf (args.map litA)) := (fn_sound rfl Tryd.call155 ok155 co155 env_nil vc155).lits
end Go.Cx.Rb
/- CxbE5 -/
namespace Go.Cx.Rb
open Go Go.Cx
theorem chk2 : ((List.range 256).all fun i => decide (timesI 2 (i : Int) = twI (i : Int)) && decide (timesI (i : Int) 2 = twI (i : Int)) && decide (timesI 3 (i : Int) = bxor .u8 (twI (i : Int)) (i : Int))) = true := by kernel_rfl
theorem times_two {x : Int} (h : 0 ≤ x ∧ x ≤ 255) : timesI 2 x = twI x ∧ timesI x 2 = twI x ∧ timesI 3 x = bxor .u8 (twI x) x := by
  obtain ⟨i, rfl⟩ := Int.eq_ofNat_of_zero_le h.1
  have e := List.all_eq_true.1 chk2 i (List.mem_range.2 (by omega))
  simp only [Bool.and_eq_true, decide_eq_true_eq] at e
  exact ⟨e.1.1, e.1.2, e.2⟩
end Go.Cx.Rb
/- CxbE6 -/
namespace Go.Cx.Rb
open Go Go.Cx Go.Proofs
def mxAt (b : List Int) (j : Nat) (al y : Int) : List Int := setI b j (bxor .u8 (nthI b j) (bxor .u8 al (twI y)))
def mixA (a b c d : Int) : Int := bxor .u8 (bxor .u8 (bxor .u8 a b) c) d
/-- the column at i mixed -/
def mixL (l : List Int) (i : Nat) : List Int :=
  mxAt (mxAt (mxAt (mxAt l (addN i 0) (mixA (nthI l (addN i 0)) (nthI l (addN i 1)) (nthI l (addN i 2)) (nthI l (addN i 3))) (bxor .u8 (nthI l (addN i 0)) (nthI l (addN i 1))))
    (addN i 1) (mixA (nthI l (addN i 0)) (nthI l (addN i 1)) (nthI l (addN i 2)) (nthI l (addN i 3))) (bxor .u8 (nthI l (addN i 1)) (nthI l (addN i 2))))
    (addN i 2) (mixA (nthI l (addN i 0)) (nthI l (addN i 1)) (nthI l (addN i 2)) (nthI l (addN i 3))) (bxor .u8 (nthI l (addN i 2)) (nthI l (addN i 3))))
    (addN i 3) (mixA (nthI l (addN i 0)) (nthI l (addN i 1)) (nthI l (addN i 2)) (nthI l (addN i 3))) (bxor .u8 (nthI l (addN i 3)) (nthI l (addN i 0)))
def cMix (ap : AP) : Ctr
  | [.o (.ints .u8 m l) (some (i, n, 1, _))] => .chk (ap _ _ (ap _ _ eqN n) 4) <| .chk (ap _ _ (ap _ _ leN (ap _ _ (ap _ _ addN i) 4)) m) <|
      .ok ⟨.tnil, [.ints .u8 m (ap _ _ (ap _ _ mixL l) i)], []⟩
  | _ => .fail 441
set_option maxRecDepth 20000 in
set_option maxHeartbeats 2000000 in
theorem vc156 (args : List Arg) (out : Out) (h : (cMix apf args).to out) (hok : okAs args) :
    args.length = ic156.nargs ∧ ic156.nargs ≤ ic156.ntmps ∧ ∃ A, run apf [(154, (fun args => cTw apf (args.map litA)))] A ic156.body (fnQ apf args out ic156.res) (st0 G1 false args) := by
  unfold cMix at h
  split at h
  · rename_i m l i n cap
    obtain ⟨hn, hm, h⟩ := h
    cases h
    have hn : n = 4 := hn
    subst hn
    have hm : i + 4 ≤ m := hm
    refine ⟨rfl, by decide, [], ?_⟩
    show run apf _ _ _ _ (st0 [(1, .ints .u32 64 kk)] _ _)
    generalize hK : kk = K
    generalize hap : apf = ap
    cbv
    repeat' first
      | exact True.intro
      | (intro (hh : _ = true); first | with_reducible exact False.elim (tf_no (Eq.trans (Eq.symm (show _ = true by assumption)) hh)) | cbv)
      | (intro (hh : _ = false); first | with_reducible exact False.elim (tf_no (Eq.trans (Eq.symm hh) (show _ = false by assumption))) | cbv)
      | with_reducible refine And.intro ?_ ?_
      | (refine ⟨0, Nat.zero_le _, ?_⟩; cbv)
    all_goals subst hap
    all_goals try simp only [apf_e, arF_xor, eqN, eqL', ltN] at *
    all_goals first
      | omega
      | (simp only [addN]; omega)
      | exact rfl
      | skip
  · exact h.elim
set_option maxHeartbeats 2000000 in
theorem s156 : Sound Tryd.prog G1 156 (pu 156) (cMix apf) := fn_sound rfl Tryd.call156 ok156 co156 (env_cons s154 env_nil) vc156
def boxU (_ : Nat) : List Int := boxL
def cBox2 (ap : AP) : Ctr
  | [] => .ok ⟨.ints .u8 256 (ap _ _ boxU 0), [], []⟩
  | _ => .fail 430
theorem cBoxes_2 : cBoxes apf = cBox2 apf := by
  funext args
  cases args with
  | nil => simp only [cBoxes, cBox2, apf_e, chkBx, boxU]
  | cons a l => rfl
theorem s153b : Sound Tryd.prog G1 153 (pu 153) (cBox2 apf) := by
  rw [← cBoxes_2]
  exact s153
def updK (f : Nat → List Int) (i : Nat) (v : List Int) : Nat → List Int := fun j => if j = i then v else f j
def kA (key : List Int) : Nat → Nat → List Int
  | 0 => fun _ => zerosI 4
  | i + 1 => updK (kA key i) (i / 4) (setI (kA key i (i / 4)) (i % 4) (nthI key i))
def kR : Nat → Int
  | 0 => 1
  | n + 1 => if (n + 4) % 4 = 0 then twI (kR n) else kR n
def boxA (t : List Int) (k : Nat) : Int := nthI (boxU 0) (nthI t k).toNat
def kT (x : Nat → List Int) (n : Nat) : List Int :=
  if (n + 4) % 4 = 0 then [bxor .u8 (boxA (x (n + 3)) 1) (kR n), boxA (x (n + 3)) 2, boxA (x (n + 3)) 3, boxA (x (n + 3)) 0] else x (n + 3)
def kC (x : Nat → List Int) (n : Nat) (t : List Int) : Nat → Nat → List Int
  | 0 => x
  | k + 1 => updK (kC x n t k) (n + 4) (setI (kC x n t k (n + 4)) k (bxor .u8 (nthI (kC x n t k n) k) (nthI t k)))
def kB (key : List Int) : Nat → Nat → List Int
  | 0 => kA key 16
  | n + 1 => kC (kB key n) n (kT (kB key n) n) 4
def kTt (key : List Int) (n : Nat) : List Int := kT (kB key n) n
def kCt (key : List Int) (n k : Nat) : Nat → List Int := kC (kB key n) n (kTt key n) k
def len4 (n : Nat) : Int := ((n + 4 : Nat) : Int)
theorem len4_nat (n : Nat) : (len4 n).toNat = n + 4 := Int.toNat_natCast _
theorem len4_1 {n : Nat} (h : n ≤ 40) : wsub .i64 (len4 n) 1 = ((n + 3 : Nat) : Int) := by
  rw [wsub_i64 (by unfold len4; omega)]; unfold len4; omega
theorem len4_4 {n : Nat} (h : n ≤ 40) : wsub .i64 (len4 n) 4 = (n : Int) := by
  rw [wsub_i64 (by unfold len4; omega)]; unfold len4; omega
theorem len4_a {n : Nat} (h : n ≤ 40) : wadd .i64 (len4 n) 1 = len4 (n + 1) := by
  rw [wadd_i64 (by unfold len4; omega)]; unfold len4; omega
theorem len4_r (n : Nat) : wrem .i64 (len4 n) 4 = (((n + 4) % 4 : Nat) : Int) := rfl
theorem len4_v (n : Nat) : len4 n = (n : Int) + 4 := by unfold len4; omega
theorem q4 {i : Nat} (h : i ≤ 16) : wquo .i64 (i : Int) 4 = ((i / 4 : Nat) : Int) := quo_i64 (k := 4) (by omega)
theorem r4 {i : Nat} : wrem .i64 (i : Int) 4 = ((i % 4 : Nat) : Int) := rfl
theorem eqRows_upd {m : Nat} {g f : Nat → List Int} {a : Nat} {y : List Int} (h : g = updK f a y) : eqRows m (fun j => .ints .u8 4 (g j)) (updR (fun j => .ints .u8 4 (f j)) a (.ints .u8 4 y)) := by
  subst h
  intro j _
  show nV (V.ints .u8 4 (updK f a y j)) = nV (updR (fun j => .ints .u8 4 (f j)) a (.ints .u8 4 y) j)
  unfold updR updK
  split <;> rfl
theorem nthI_rng {l : List Int} {i : Nat} (h : ∀ y ∈ l, inR .u8 y) : 0 ≤ nthI l i ∧ nthI l i < 256 := by
  unfold nthI
  rw [List.getD_eq_getElem?_getD]
  cases e : l[i]? with
  | none => exact ⟨by decide, by decide⟩
  | some y =>
    have := inR_u8.1 (h y (List.mem_of_getElem? e))
    exact ⟨this.1, by show y < 256; omega⟩
def cMade (ap : AP) : Ctr
  | [.v (.ints .u8 16 key)] => .ok ⟨.ptr 0 [], [], [.cat 256 176 (.ints .u8 256 (ap _ _ boxU 0)) (.rows 4 44 fun j => .ints .u8 4 (ap _ _ (ap _ _ (ap _ _ kB key) 40) j))]⟩
  | _ => .fail 442
def aMade (ap : AP) (key : List Int) : List (Nat × Ann) := [
  (0, .inv Nat (fun i => ⟨[(1, .ptr 1 []), (3, .ptr 11 []), (12, .int .i64 (ap _ _ lenI i))],
    [(1, ⟨.own, .ints .u8 16 key⟩), (11, ⟨.own, .cat 256 176 (.ints .u8 256 (ap _ _ boxU 0)) (.rows 4 44 fun j => .ints .u8 4 (ap _ _ (ap _ _ (ap _ _ kA key) i) j))⟩)], []⟩) (fun i => i ≤ 16) (fun i => 16 - i)),
  (1, .nest Nat (fun n => ⟨[(3, .ptr 11 []), (5, .int .u8 (ap _ _ kR n)), (6, .int .i64 (ap _ _ len4 n))],
    [(11, ⟨.own, .cat 256 176 (.ints .u8 256 (ap _ _ boxU 0)) (.rows 4 44 fun j => .ints .u8 4 (ap _ _ (ap _ _ (ap _ _ kB key) n) j))⟩)], []⟩) (fun n => n ≤ 40) (fun n => 40 - n)
    (fun n => [(2, .inv Nat (fun k => ⟨[(3, .ptr 11 []), (5, .int .u8 (ap _ _ kR (n + 1))), (6, .int .i64 (ap _ _ len4 n)), (7, .ptr 7 []), (75, .int .i64 (ap _ _ lenI k))],
      [(11, ⟨.own, .cat 256 176 (.ints .u8 256 (ap _ _ boxU 0)) (.rows 4 44 fun j => .ints .u8 4 (ap _ _ (ap _ _ (ap _ _ (ap _ _ kCt key) n) k) j))⟩), (7, ⟨.own, .ints .u8 4 (ap _ _ (ap _ _ kTt key) n)⟩)], []⟩) (fun k => k ≤ 4) (fun k => 4 - k))]))]
set_option maxRecDepth 20000 in
set_option maxHeartbeats 2000000 in
theorem vc147 (args : List Arg) (out : Out) (h : (cMade apf args).to out) (hok : okAs args) :
    args.length = ic147.nargs ∧ ic147.nargs ≤ ic147.ntmps ∧ ∃ A, run apf [(153, cBox2 apf), (154, (fun args => cTw apf (args.map litA)))] A ic147.body (fnQ apf args out ic147.res) (st0 G1 true args) := by
  unfold cMade at h
  split at h
  · rename_i key
    cases h
    refine ⟨rfl, by decide, aMade apf key, ?_⟩
    show run apf _ _ _ _ (st0 [(1, .ints .u32 64 kk)] _ _)
    generalize hK : kk = K
    generalize hap : apf = ap
    cbv
    repeat' first
      | exact True.intro
      | (intro (hh : _ = true); first | with_reducible exact False.elim (tf_no (Eq.trans (Eq.symm (show _ = true by assumption)) hh)) | cbv)
      | (intro (hh : _ = false); first | with_reducible exact False.elim (tf_no (Eq.trans (Eq.symm hh) (show _ = false by assumption))) | cbv)
      | with_reducible refine And.intro ?_ ?_
      | (refine ⟨0, Nat.zero_le _, ?_⟩; cbv)
    all_goals first
      | (intro (i : Nat) hi hts hhs
         have hi : i ≤ 16 := hi
         cbv
         repeat' first
           | exact True.intro
           | (intro (hh : _ = true); first | with_reducible exact False.elim (tf_no (Eq.trans (Eq.symm (show _ = true by assumption)) hh)) | cbv)
           | (intro (hh : _ = false); first | with_reducible exact False.elim (tf_no (Eq.trans (Eq.symm hh) (show _ = false by assumption))) | cbv)
           | with_reducible refine And.intro ?_ ?_
           | (refine ⟨i + 1, ?_, (?_ : _ < _), ?_⟩; rotate_left 2; try cbv)
           | (refine ⟨0, Nat.zero_le _, ?_⟩; cbv))
      | skip
    all_goals first
      | (intro (n : Nat) hi hts hhs
         have hn : n ≤ 40 := hi
         cbv
         repeat' first
           | exact True.intro
           | (intro (hh : _ = true); first | with_reducible exact False.elim (tf_no (Eq.trans (Eq.symm (show _ = true by assumption)) hh)) | cbv)
           | (intro (hh : _ = false); first | with_reducible exact False.elim (tf_no (Eq.trans (Eq.symm hh) (show _ = false by assumption))) | cbv)
           | with_reducible refine And.intro ?_ ?_
           | (refine ⟨n + 1, ?_, (?_ : _ < _), ?_⟩; rotate_left 2; try cbv)
           | (refine ⟨0, Nat.zero_le _, ?_⟩; cbv))
      | skip
    all_goals first
      | (intro (k : Nat) hi hts hhs
         have hk : k ≤ 4 := hi
         cbv
         repeat' first
           | exact True.intro
           | (intro (hh : _ = true); first | with_reducible exact False.elim (tf_no (Eq.trans (Eq.symm (show _ = true by assumption)) hh)) | cbv)
           | (intro (hh : _ = false); first | with_reducible exact False.elim (tf_no (Eq.trans (Eq.symm hh) (show _ = false by assumption))) | cbv)
           | with_reducible refine And.intro ?_ ?_
           | (refine ⟨k + 1, ?_, (?_ : Nat.sub 4 (k + 1) < Nat.sub 4 k), ?_⟩; rotate_left 2; try cbv)
           | (refine ⟨n + 1, ?_, (?_ : Nat.sub 40 (n + 1) < Nat.sub 40 n), ?_⟩; rotate_left 2; try cbv)
           | (refine ⟨0, Nat.zero_le _, ?_⟩; cbv))
      | skip
    all_goals subst hap
    all_goals try simp only [apf_e, arF_sub, arF_add, arF_quo, arF_rem8, arF_xor, cmF_e, cmF_l, lt_t, lt_f, eq_t, eq_f, eqN, eqI', eqL', ltN, natI, lenI] at *
    all_goals try simp only [Int.toNat_natCast, len4_nat, len4_1 hn, len4_4 hn]
    all_goals try simp only [q4 hi, r4, Int.toNat_natCast]
    all_goals try have hv := len4_v n
    all_goals first
      | omega
      | exact fun _ _ => rfl
      | (show 16 - (i + 1) < 16 - i; omega)
      | (show 40 - (n + 1) < 40 - n; omega)
      | (show 4 - (k + 1) < 4 - k; omega)
      | exact (inc_i64 (i := i) (by omega)).symm
      | exact (inc_i64 (i := k) (by omega)).symm
      | exact (len4_a hn).symm
      | exact eqRows_upd rfl
      | (have e : i = 16 := by omega
         subst e
         exact fun _ _ => rfl)
      | (have e : k = 4 := by omega
         subst e
         exact fun _ _ => rfl)
      | (have e : n = 40 := by omega
         subst e
         exact fun _ _ => rfl)
      | (have hg : wrem .i64 (len4 n) 4 = 0 := by assumption
         rw [len4_r] at hg
         exact if_pos (by omega))
      | (have hg : wrem .i64 (len4 n) 4 ≠ 0 := by assumption
         rw [len4_r] at hg
         exact if_neg (by omega))
      | (have hw := nthI_rng (i := 0) (hhs.1.2 (n + 3) (by omega)).2
         have hw1 := nthI_rng (i := 1) (hhs.1.2 (n + 3) (by omega)).2
         have hw2 := nthI_rng (i := 2) (hhs.1.2 (n + 3) (by omega)).2
         have hw3 := nthI_rng (i := 3) (hhs.1.2 (n + 3) (by omega)).2
         first | exact hw.1 | exact hw1.1 | exact hw2.1 | exact hw3.1 | omega)
      | exact rfl
      | skip
  · exact h.elim
set_option maxHeartbeats 2000000 in
theorem s147 : Sound Tryd.prog G1 147 (pu 147) (cMade apf) := fn_sound rfl Tryd.call147 ok147 co147 (env_cons s153b (env_cons s154 env_nil)) vc147
end Go.Cx.Rb
/- CxbE7 -/
namespace Go.Cx.Rb
open Go Go.Cx Go.Proofs
theorem cmF_le : cmF .leq = leI := rfl
/-- the first i bytes of the rows turned and boxed -/
def tS (bx b : List Int) : Nat → List Int
  | 0 => zerosI 16
  | i + 1 => setI (tS bx b i) i (nthI bx (nthI b ((i + 4 * (i % 4)) % 16)).toNat)
def mS (t : List Int) : Nat → List Int
  | 0 => t
  | c + 1 => mixL (mS t c) (4 * c)
def mNxt (bx b : List Int) (rd : Nat) : List Int := if rd + 1 < 10 then mS (tS bx b 16) 4 else tS bx b 16
def blkS (bx : List Int) (x : Nat → List Int) (b : List Int) : Nat → List Int
  | 0 => rkL b x 0
  | rd + 1 => rkL (mNxt bx (blkS bx x b rd) rd) x (lenJ rd)
def blkL (bx : List Int) (x : Nat → List Int) (b : List Int) : List Int := blkS bx x b 10
def tSt (bx : List Int) (x : Nat → List Int) (b : List Int) (rd i : Nat) : List Int := tS bx (blkS bx x b rd) i
def mSt (bx : List Int) (x : Nat → List Int) (b : List Int) (rd c : Nat) : List Int := mS (tSt bx x b rd 16) c
def col4 (c : Nat) : Int := ((4 * c : Nat) : Int)
theorem col4_v (c : Nat) : col4 c = 4 * (c : Int) := by unfold col4; omega
theorem col4_nat (c : Nat) : (col4 c).toNat = 4 * c := Int.toNat_natCast _
theorem col4_n {c : Nat} (h : c ≤ 4) : wadd .i64 (col4 c) 4 = col4 (c + 1) := by
  rw [wadd_i64 (by unfold col4; omega)]; unfold col4; omega
theorem t_idx {i : Nat} (h : i ≤ 16) : wrem .i64 (wadd .i64 (i : Int) (wmul .i64 4 (wrem .i64 (i : Int) 4))) 16 = (((i + 4 * (i % 4)) % 16 : Nat) : Int) := by
  have e : wrem .i64 (i : Int) 4 = ((i % 4 : Nat) : Int) := rfl
  rw [e, wmul_i64 (by omega), wadd_i64 (by omega), show (i : Int) + 4 * ((i % 4 : Nat) : Int) = ((i + 4 * (i % 4) : Nat) : Int) by omega]
  rfl
theorem unkws_nV {x : Nat → List Int} : (unkws fun j => nV (V.ints .u8 4 (x j))) = x := rfl
section
variable {bx b : List Int} {x : Nat → List Int} {rd i c : Nat}
theorem blk_0 : blkS bx x b 0 = rkL b x 0 := rfl
theorem tSt_0 : tSt bx x b rd 0 = zerosI 16 := rfl
theorem tSt_s : tSt bx x b rd i.succ = setI (tSt bx x b rd i) i (nthI bx (nthI (blkS bx x b rd) ((i + 4 * (i % 4)) % 16)).toNat) := rfl
theorem mSt0 : mSt bx x b rd 0 = tSt bx x b rd 16 := rfl
theorem mSt_s : mSt bx x b rd c.succ = mixL (mSt bx x b rd c) (4 * c) := rfl
theorem blk_mix (h : rd + 1 < 10) : blkS bx x b rd.succ = rkL (mSt bx x b rd 4) x (lenJ rd) := by
  show rkL (mNxt bx (blkS bx x b rd) rd) x (lenJ rd) = _
  rw [mNxt, if_pos h, mSt, tSt]
theorem blk_last (h : ¬ rd + 1 < 10) : blkS bx x b rd.succ = rkL (tSt bx x b rd 16) x (lenJ rd) := by
  show rkL (mNxt bx (blkS bx x b rd) rd) x (lenJ rd) = _
  rw [mNxt, if_neg h, tSt]
theorem blk_end : blkL bx x b = blkS bx x b 10 := rfl
end
def cBlk (ap : AP) : Ctr
  | [.o (.cat 256 176 (.ints .u8 256 bx) (.rows 4 44 f)), .v (.ints .u8 16 b)] => .chk (ap _ _ isKw f) <|
      .ok ⟨.ints .u8 16 (ap _ _ (ap _ _ (ap _ _ blkL bx) (ap _ _ unkws f)) b), [.cat 256 176 (.ints .u8 256 bx) (.rows 4 44 f)], []⟩
  | _ => .fail 443
def aBlk (ap : AP) (bx b : List Int) (x : Nat → List Int) : List (Nat × Ann) := [
  (0, .nest Nat (fun rd => ⟨[(0, .ptr (parH 0) []), (3, .ptr 3 []), (4, .ptr 4 []), (5, .int .i64 (ap _ _ lenJ rd))],
    [(parH 0, ⟨.own, .cat 256 176 (.ints .u8 256 bx) (.rows 4 44 fun j => .ints .u8 4 (x j))⟩), (3, ⟨.own, .ints .u8 16 (ap _ _ (ap _ _ (ap _ _ (ap _ _ blkS bx) x) b) rd)⟩), (4, ⟨.own, .ints .u8 16 (ap _ _ zerosI 16)⟩)], []⟩) (fun rd => rd ≤ 10) (fun rd => 10 - rd)
    (fun rd => [
      (1, .inv Nat (fun i => ⟨[(0, .ptr (parH 0) []), (3, .ptr 3 []), (4, .ptr 4 []), (5, .int .i64 (ap _ _ lenJ rd)), (6, .ptr 6 []), (15, .int .i64 (ap _ _ lenI i))],
        [(parH 0, ⟨.own, .cat 256 176 (.ints .u8 256 bx) (.rows 4 44 fun j => .ints .u8 4 (x j))⟩), (3, ⟨.own, .ints .u8 16 (ap _ _ (ap _ _ (ap _ _ (ap _ _ blkS bx) x) b) rd)⟩), (4, ⟨.own, .ints .u8 16 (ap _ _ zerosI 16)⟩), (6, ⟨.own, .ints .u8 16 (ap _ _ (ap _ _ (ap _ _ (ap _ _ (ap _ _ tSt bx) x) b) rd) i)⟩)], []⟩) (fun i => i ≤ 16) (fun i => 16 - i)),
      (2, .inv Nat (fun c => ⟨[(0, .ptr (parH 0) []), (3, .ptr 3 []), (4, .ptr 4 []), (5, .int .i64 (ap _ _ lenJ rd)), (6, .ptr 6 []), (8, .int .i64 (ap _ _ col4 c))],
        [(parH 0, ⟨.own, .cat 256 176 (.ints .u8 256 bx) (.rows 4 44 fun j => .ints .u8 4 (x j))⟩), (3, ⟨.own, .ints .u8 16 (ap _ _ (ap _ _ (ap _ _ (ap _ _ blkS bx) x) b) rd)⟩), (4, ⟨.own, .ints .u8 16 (ap _ _ zerosI 16)⟩), (6, ⟨.own, .ints .u8 16 (ap _ _ (ap _ _ (ap _ _ (ap _ _ (ap _ _ mSt bx) x) b) rd) c)⟩)], []⟩) (fun c => c ≤ 4) (fun c => 4 - c))]))]
set_option maxRecDepth 20000 in
set_option maxHeartbeats 2000000 in
theorem vc148 (args : List Arg) (out : Out) (h : (cBlk apf args).to out) (hok : okAs args) :
    args.length = ic148.nargs ∧ ic148.nargs ≤ ic148.ntmps ∧ ∃ A, run apf [(155, (fun args => cRk apf (args.map litA))), (156, cMix apf)] A ic148.body (fnQ apf args out ic148.res) (st0 G1 false args) := by
  unfold cBlk at h
  split at h
  · rename_i bx f b
    obtain ⟨⟨x, rfl⟩, h⟩ := h
    cases h
    rw [unkws_eq]
    refine ⟨rfl, by decide, aBlk apf bx b x, ?_⟩
    show run apf _ _ _ _ (st0 [(1, .ints .u32 64 kk)] _ _)
    generalize hK : kk = K
    generalize hap : apf = ap
    cbv
    repeat' first
      | exact True.intro
      | (intro (hh : _ = true); first | with_reducible exact False.elim (tf_no (Eq.trans (Eq.symm (show _ = true by assumption)) hh)) | cbv)
      | (intro (hh : _ = false); first | with_reducible exact False.elim (tf_no (Eq.trans (Eq.symm hh) (show _ = false by assumption))) | cbv)
      | with_reducible refine And.intro ?_ ?_
      | (refine ⟨0, Nat.zero_le _, ?_⟩; cbv)
    all_goals first
      | (intro (rd : Nat) hi hts hhs
         have hrd : rd ≤ 10 := hi
         cbv
         repeat' first
           | exact True.intro
           | (intro (hh : _ = true); first | with_reducible exact False.elim (tf_no (Eq.trans (Eq.symm (show _ = true by assumption)) hh)) | cbv)
           | (intro (hh : _ = false); first | with_reducible exact False.elim (tf_no (Eq.trans (Eq.symm hh) (show _ = false by assumption))) | cbv)
           | with_reducible refine And.intro ?_ ?_
           | (refine ⟨rd + 1, ?_, (?_ : _ < _), ?_⟩; rotate_left 2; try cbv)
           | (refine ⟨0, Nat.zero_le _, ?_⟩; cbv))
      | skip
    all_goals first
      | (intro (i : Nat) hi hts hhs
         have hi : i ≤ 16 := hi
         cbv
         repeat' first
           | exact True.intro
           | (intro (hh : _ = true); first | with_reducible exact False.elim (tf_no (Eq.trans (Eq.symm (show _ = true by assumption)) hh)) | cbv)
           | (intro (hh : _ = false); first | with_reducible exact False.elim (tf_no (Eq.trans (Eq.symm hh) (show _ = false by assumption))) | cbv)
           | with_reducible refine And.intro ?_ ?_
           | (refine ⟨i + 1, ?_, (?_ : Nat.sub 16 (i + 1) < Nat.sub 16 i), ?_⟩; rotate_left 2; try cbv)
           | (refine ⟨rd + 1, ?_, (?_ : Nat.sub 10 (rd + 1) < Nat.sub 10 rd), ?_⟩; rotate_left 2; try cbv)
           | (refine ⟨0, Nat.zero_le _, ?_⟩; cbv))
      | skip
    all_goals first
      | (intro (c : Nat) hi hts hhs
         have hc : c ≤ 4 := hi
         cbv
         repeat' first
           | exact True.intro
           | (intro (hh : _ = true); first | with_reducible exact False.elim (tf_no (Eq.trans (Eq.symm (show _ = true by assumption)) hh)) | cbv)
           | (intro (hh : _ = false); first | with_reducible exact False.elim (tf_no (Eq.trans (Eq.symm hh) (show _ = false by assumption))) | cbv)
           | with_reducible refine And.intro ?_ ?_
           | (refine ⟨c + 1, ?_, (?_ : Nat.sub 4 (c + 1) < Nat.sub 4 c), ?_⟩; rotate_left 2; try cbv)
           | (refine ⟨rd + 1, ?_, (?_ : Nat.sub 10 (rd + 1) < Nat.sub 10 rd), ?_⟩; rotate_left 2; try cbv)
           | (refine ⟨0, Nat.zero_le _, ?_⟩; cbv))
      | skip
    all_goals subst hap
    all_goals try simp only [apf_e, arF_add, arF_mul, arF_rem8, cmF_l, cmF_le, lt_t, lt_f, le_t, le_f, eqN, eqI', eqL', ltN, natI, lenI] at *
    all_goals try simp only [unkws_nV]
    all_goals try simp only [t_idx hi]
    all_goals try simp only [col4_nat, col4_n hc]
    all_goals try simp only [Int.toNat_natCast]
    all_goals try have hJ := lenJ_val rd
    all_goals try have hC := col4_v c
    all_goals try have hC1 := col4_v (c + 1)
    all_goals first
      | omega
      | (unfold inRd; omega)
      | (show 16 - (i + 1) < 16 - i; omega)
      | (show 10 - (rd + 1) < 10 - rd; omega)
      | (show 4 - (c + 1) < 4 - c; omega)
      | with_reducible exact (inc_i64 (i := i) (by omega)).symm
      | with_reducible exact (lenJ_add (by omega)).symm
      | (simp only [leN, addN, subN]; omega)
      | (have e : c = 4 := by omega
         subst e
         with_reducible exact blk_mix (by omega))
      | (have e : i = 16 := by omega
         subst e
         with_reducible first
           | exact mSt0
           | exact blk_last (by omega))
      | (have e : rd = 10 := by omega
         subst e
         with_reducible exact blk_end)
      | (with_reducible first | exact blk_0 | exact tSt_0 | exact tSt_s | exact mSt_s)
      | (with_reducible show eqRows _ _ _
         exact fun _ _ => rfl)
      | (with_reducible show isKw _
         exact ⟨x, rfl⟩)
      | (with_reducible show lenJ 0 = 1
         exact rfl)
      | (with_reducible show col4 0 = 0
         exact rfl)
      | (have hw := nthI_rng (i := (i + 4 * (i % 4)) % 16) hhs.2.1.2
         first | with_reducible exact hw.1 | omega)
      | skip
  · exact h.elim
set_option maxHeartbeats 2000000 in
theorem s148 : Sound Tryd.prog G1 148 (pu 148) (cBlk apf) := fn_sound rfl Tryd.call148 ok148 co148 (env_cons s155 (env_cons s156 env_nil)) vc148
end Go.Cx.Rb
/- CxbE8 -/
namespace Go.Cx.Rb
open Go Go.Cx Go.Proofs
def rR : Nat → Int
  | 0 => 1
  | n + 1 => if (4 * n + 16) % 16 = 0 then timesI (rR n) 2 else rR n
def rTw (w : List Int) (n : Nat) : List Int := [nthI w (4 * n + 12), nthI w (4 * n + 13), nthI w (4 * n + 14), nthI w (4 * n + 15)]
def rTb (bx w : List Int) (n : Nat) : List Int :=
  [bxor .u8 (nthI bx (nthI w (4 * n + 13)).toNat) (rR n), nthI bx (nthI w (4 * n + 14)).toNat, nthI bx (nthI w (4 * n + 15)).toNat, nthI bx (nthI w (4 * n + 12)).toNat]
def rT (bx w : List Int) (n : Nat) : List Int := if (4 * n + 16) % 16 = 0 then rTb bx w n else rTw w n
def wLn (n k : Nat) : Nat := 4 * n + 16 + k
def wI (w t : List Int) (n : Nat) : Nat → List Int
  | 0 => w
  | k + 1 => catL (subL (wI w t n k) 0 (wLn n k)) (subL [bxor .u8 (nthI (wI w t n k) (4 * n + k)) (nthI t k)] 0 1)
def wN (key bx : List Int) : Nat → List Int
  | 0 => subL key 0 16
  | n + 1 => wI (wN key bx n) (rT bx (wN key bx n) n) n 4
def rTt (key bx : List Int) (n : Nat) : List Int := rT bx (wN key bx n) n
def wIt (key bx : List Int) (n k : Nat) : List Int := wI (wN key bx n) (rTt key bx n) n k
def l16 (n : Nat) : Int := ((4 * n + 16 : Nat) : Int)
theorem l16_1 {n : Nat} (h : n ≤ 40) : wsub .i64 (l16 n) 1 = ((4 * n + 15 : Nat) : Int) := by
  rw [wsub_i64 (by unfold l16; omega)]; unfold l16; omega
theorem l16_2 {n : Nat} (h : n ≤ 40) : wsub .i64 (l16 n) 2 = ((4 * n + 14 : Nat) : Int) := by
  rw [wsub_i64 (by unfold l16; omega)]; unfold l16; omega
theorem l16_3 {n : Nat} (h : n ≤ 40) : wsub .i64 (l16 n) 3 = ((4 * n + 13 : Nat) : Int) := by
  rw [wsub_i64 (by unfold l16; omega)]; unfold l16; omega
theorem l16_4 {n : Nat} (h : n ≤ 40) : wsub .i64 (l16 n) 4 = ((4 * n + 12 : Nat) : Int) := by
  rw [wsub_i64 (by unfold l16; omega)]; unfold l16; omega
theorem l16_16 {n : Nat} (h : n ≤ 40) : wsub .i64 (l16 n) 16 = ((4 * n : Nat) : Int) := by
  rw [wsub_i64 (by unfold l16; omega)]; unfold l16; omega
theorem addN0 {x : Nat} : addN 0 x = x := Nat.zero_add x
theorem nth4_0 {a b c d : Int} : nthI [a, b, c, d] 0 = a := rfl
theorem nth4_1 {a b c d : Int} : nthI [a, b, c, d] 1 = b := rfl
theorem nth4_2 {a b c d : Int} : nthI [a, b, c, d] 2 = c := rfl
theorem nth4_3 {a b c d : Int} : nthI [a, b, c, d] 3 = d := rfl
theorem l16_a {n : Nat} (h : n ≤ 40) : wadd .i64 (l16 n) 4 = l16 (n + 1) := by
  rw [wadd_i64 (by unfold l16; omega)]; unfold l16; omega
theorem l16_r (n : Nat) : wrem .i64 (l16 n) 16 = (((4 * n + 16) % 16 : Nat) : Int) := rfl
theorem l16_v (n : Nat) : l16 n = 4 * (n : Int) + 16 := by unfold l16; omega
theorem l16_k {n k : Nat} (h : n ≤ 40) (hk : k ≤ 4) : wadd .i64 ((4 * n : Nat) : Int) (k : Int) = ((4 * n + k : Nat) : Int) := by
  rw [wadd_i64 (by omega)]; omega
def kOf : Nat → Nat
  | 0 => 0
  | j + 1 => j
def renA (n : Nat) : List (Nat × Nat) := match n with | 0 => [(7000, 12)] | _ + 1 => []
def renB (j : Nat) : List (Nat × Nat) := match j with | 0 => [(7001, 37)] | 1 => [(7001, 67)] | _ + 2 => [(7000, 88)]
theorem kOf_0 : kOf 0 = 0 := rfl
theorem kOf_s {j : Nat} : kOf j.succ = j := rfl
theorem one_i64 : ((1 : Nat) : Int) = wadd .i64 ((0 : Nat) : Int) 1 := rfl
theorem l16_kz {n : Nat} (h : n ≤ 40) : wadd .i64 ((4 * n : Nat) : Int) ((0 : Nat) : Int) = ((4 * n : Nat) : Int) := l16_k h (Nat.zero_le _)
section
variable {key bx : List Int} {n k : Nat}
theorem rR_t (h : (4 * n + 16) % 16 = 0) : rR (n + 1) = timesI (rR n) 2 := if_pos h
theorem rR_f (h : (4 * n + 16) % 16 ≠ 0) : rR (n + 1) = rR n := if_neg h
theorem rTt_t (h : (4 * n + 16) % 16 = 0) : rTt key bx n = [bxor .u8 (nthI bx (nthI (wN key bx n) (4 * n + 13)).toNat) (rR n), nthI bx (nthI (wN key bx n) (4 * n + 14)).toNat, nthI bx (nthI (wN key bx n) (4 * n + 15)).toNat, nthI bx (nthI (wN key bx n) (4 * n + 12)).toNat] := if_pos h
theorem rTt_f (h : (4 * n + 16) % 16 ≠ 0) : rTt key bx n = [nthI (wN key bx n) (4 * n + 12), nthI (wN key bx n) (4 * n + 13), nthI (wN key bx n) (4 * n + 14), nthI (wN key bx n) (4 * n + 15)] := if_neg h
theorem wIt_0 : wIt key bx n 0 = wN key bx n := rfl
theorem wIt_s : wIt key bx n k.succ = catL (subL (wIt key bx n k) 0 (wLn n k)) (subL [bxor .u8 (nthI (wIt key bx n k) (4 * n + k)) (nthI (rTt key bx n) k)] 0 1) := rfl
theorem wIt_1 : wIt key bx n 1 = catL (subL (wIt key bx n 0) 0 (wLn n 0)) (subL [bxor .u8 (nthI (wIt key bx n 0) (4 * n)) (nthI (rTt key bx n) 0)] 0 1) := rfl
theorem wN_0 : wN key bx 0 = subL key 0 16 := rfl
theorem wN_s : wN key bx n.succ = wIt key bx n 4 := rfl
end
def cKeys (ap : AP) : Ctr
  | [.v (.ints .u8 16 key), .b n 1 (.ints .u8 m bx)] => .chk (ap _ _ (ap _ _ eqN n) 256) <| .chk (ap _ _ (ap _ _ eqN m) 256) <|
      .ok ⟨.sl 0 [] 0 (ap _ _ (ap _ _ wLn 40) 0) 1 none, [], [.ints .u8 (ap _ _ (ap _ _ wLn 40) 0) (ap _ _ (ap _ _ (ap _ _ wN key) bx) 40)]⟩
  | _ => .fail 444
def aKeys (ap : AP) (key bx : List Int) : List (Nat × Ann) := [
  (0, .nest Nat (fun n => ⟨[(1, .sl (parH 1) [] 0 256 1 none), (5, .sl 7000 [] 0 (ap _ _ (ap _ _ wLn n) 0) 1 none), (6, .int .u8 (ap _ _ rR n)), (7, .int .i64 (ap _ _ l16 n))],
    [(parH 1, ⟨.bor, .ints .u8 256 bx⟩), (7000, ⟨.own, .ints .u8 (ap _ _ (ap _ _ wLn n) 0) (ap _ _ (ap _ _ (ap _ _ wN key) bx) n)⟩)], renA n⟩) (fun n => n ≤ 40) (fun n => 40 - n)
    (fun n => [(1, .inv Nat (fun j => ⟨[(1, .sl (parH 1) [] 0 256 1 none), (5, .sl 7000 [] 0 (ap _ _ (ap _ _ wLn n) (ap _ _ kOf j)) 1 none), (6, .int .u8 (ap _ _ rR (n + 1))), (7, .int .i64 (ap _ _ l16 n)), (8, .sl 7001 [] 0 4 1 none), (9, .int .i64 (ap _ _ lenI (ap _ _ kOf j)))],
      [(parH 1, ⟨.bor, .ints .u8 256 bx⟩), (7000, ⟨.own, .ints .u8 (ap _ _ (ap _ _ wLn n) (ap _ _ kOf j)) (ap _ _ (ap _ _ (ap _ _ (ap _ _ wIt key) bx) n) (ap _ _ kOf j))⟩), (7001, ⟨.own, .ints .u8 4 (ap _ _ (ap _ _ (ap _ _ rTt key) bx) n)⟩)], renB j⟩) (fun j => kOf j ≤ 4) (fun j => 6 - j))]))]
set_option maxRecDepth 20000 in
set_option maxHeartbeats 2000000 in
theorem vc157 (args : List Arg) (out : Out) (h : (cKeys apf args).to out) (hok : okAs args) :
    args.length = ic157.nargs ∧ ic157.nargs ≤ ic157.ntmps ∧ ∃ A, run apf [(159, (fun args => cTimes apf (args.map litA)))] A ic157.body (fnQ apf args out ic157.res) (st0 G1 true args) := by
  unfold cKeys at h
  split at h
  · rename_i key n m bx
    obtain ⟨hn, hm, h⟩ := h
    cases h
    cases (show n = 256 from hn)
    cases (show m = 256 from hm)
    clear hn hm
    refine ⟨rfl, by decide, aKeys apf key bx, ?_⟩
    show run apf _ _ _ _ (st0 [(1, .ints .u32 64 kk)] _ _)
    generalize hK : kk = K
    generalize hap : apf = ap
    cbv
    repeat' first
      | exact True.intro
      | (intro (hh : _ = true); first | with_reducible exact False.elim (tf_no (Eq.trans (Eq.symm (show _ = true by assumption)) hh)) | cbv)
      | (intro (hh : _ = false); first | with_reducible exact False.elim (tf_no (Eq.trans (Eq.symm hh) (show _ = false by assumption))) | cbv)
      | with_reducible refine And.intro ?_ ?_
      | (refine ⟨0, Nat.zero_le _, ?_⟩; cbv; and_intros; all_goals (fail_if_success (with_reducible show False)))
      | (refine ⟨1, Nat.zero_le _, ?_⟩; cbv; and_intros; all_goals (fail_if_success (with_reducible show False)))
    all_goals first
      | (intro (n : Nat) hi hts hhs
         have hn : n ≤ 40 := hi
         all_goals try cbv
         repeat' first
           | exact True.intro
           | (intro (hh : _ = true); first | with_reducible exact False.elim (tf_no (Eq.trans (Eq.symm (show _ = true by assumption)) hh)) | cbv)
           | (intro (hh : _ = false); first | with_reducible exact False.elim (tf_no (Eq.trans (Eq.symm hh) (show _ = false by assumption))) | cbv)
           | with_reducible refine And.intro ?_ ?_
           | (refine ⟨n + 1, ?_, (?_ : _ < _), ?_⟩; rotate_left 2; try cbv)
           | (refine ⟨0, Nat.zero_le _, ?_⟩; cbv; and_intros; all_goals (fail_if_success (with_reducible show False)))
           | (refine ⟨1, Nat.zero_le _, ?_⟩; cbv; and_intros; all_goals (fail_if_success (with_reducible show False))))
      | skip
    all_goals first
      | (intro (j : Nat) hi hts hhs
         rcases j with _ | j
         all_goals try cbv
         repeat' first
           | exact True.intro
           | (intro (hh : _ = true); first | with_reducible exact False.elim (tf_no (Eq.trans (Eq.symm (show _ = true by assumption)) hh)) | cbv)
           | (intro (hh : _ = false); first | with_reducible exact False.elim (tf_no (Eq.trans (Eq.symm hh) (show _ = false by assumption))) | cbv)
           | with_reducible refine And.intro ?_ ?_
           | (refine ⟨2, ?_, (?_ : Nat.sub 6 2 < Nat.sub 6 0), ?_⟩; rotate_left 2; try cbv)
           | (refine ⟨j + 2, ?_, (?_ : Nat.sub 6 (j + 2) < Nat.sub 6 (j + 1)), ?_⟩; rotate_left 2; try cbv)
           | (refine ⟨n + 1, ?_, (?_ : Nat.sub 40 (n + 1) < Nat.sub 40 n), ?_⟩; rotate_left 2; try cbv)
           | (refine ⟨0, Nat.zero_le _, ?_⟩; cbv; and_intros; all_goals (fail_if_success (with_reducible show False)))
           | (refine ⟨1, Nat.zero_le _, ?_⟩; cbv; and_intros; all_goals (fail_if_success (with_reducible show False))))
      | skip
    all_goals subst hap
    all_goals try simp only [apf_e, arF_sub, arF_add, arF_rem8, arF_xor, cmF_e, cmF_l, lt_t, lt_f, eq_t, eq_f, eqN, eqI', eqL', ltN, natI, lenI] at *
    all_goals try simp only [addN0, nth4_0, nth4_1, nth4_2, nth4_3, l16_1 hn, l16_2 hn, l16_3 hn, l16_4 hn, l16_16 hn, Int.toNat_natCast]
    all_goals try simp only [kOf_0, kOf_s, l16_kz hn, Int.toNat_natCast] at *
    all_goals try have hj : j ≤ 4 := hi
    all_goals try simp only [l16_k hn hj, Int.toNat_natCast]
    all_goals try have hL := l16_v n
    all_goals first
      | omega
      | (simp only [leN, appN, wLn, addN, V.cnt] <;> omega)
      | (have hw := (hhs.2.1).2
         have h0 := nthI_rng (i := 4 * n + 12) hw
         have h1 := nthI_rng (i := 4 * n + 13) hw
         have h2 := nthI_rng (i := 4 * n + 14) hw
         have h3 := nthI_rng (i := 4 * n + 15) hw
         first | with_reducible exact h0.1 | with_reducible exact h1.1 | with_reducible exact h2.1 | with_reducible exact h3.1 | omega)
      | (show 40 - (n + 1) < 40 - n; omega)
      | (show 6 - 2 < 6 - 0; omega)
      | (show 6 - (j + 2) < 6 - (j + 1); omega)
      | (show j + 1 ≤ 4; omega)
      | (have hg : wrem .i64 (l16 n) 16 = 0 := by assumption
         rw [l16_r] at hg
         with_reducible first | exact rR_t (by omega) | exact rTt_t (by omega))
      | (have hg : wrem .i64 (l16 n) 16 ≠ 0 := by assumption
         rw [l16_r] at hg
         with_reducible first | exact rR_f (by omega) | exact rTt_f (by omega))
      | (with_reducible first | exact wIt_0 | exact wIt_1 | exact wIt_s | exact wN_0 | exact (l16_a hn).symm | exact (inc_i64 (i := j) (by omega)).symm | exact one_i64)
      | (have e : j = 4 := by omega
         subst e
         with_reducible exact wN_s)
      | (have e : n = 40 := by omega
         subst e
         with_reducible exact rfl)
      | (with_reducible show rR 0 = 1
         exact rfl)
      | (with_reducible show l16 0 = 16
         exact rfl)
      | skip
  · exact h.elim
set_option maxHeartbeats 2000000 in
theorem s157 : Sound Tryd.prog G1 157 (pu 157) (cKeys apf) := fn_sound rfl Tryd.call157 ok157 co157 (env_cons s159 env_nil) vc157
end Go.Cx.Rb
/- CxbE9 -/
namespace Go.Cx.Rb
open Go Go.Cx Go.Proofs
def aW (b w : List Int) : Nat → List Int
  | 0 => b
  | i + 1 => setI (aW b w i) i (bxor .u8 (nthI (aW b w i) i) (nthI w i))
def rS1 (bx b t : List Int) (c r : Nat) : List Int := setI t (4 * c + r) (nthI bx (nthI b (4 * ((c + r) % 4) + r)).toNat)
def rS (bx b : List Int) : Nat → List Int
  | 0 => zerosI 16
  | c + 1 => rS1 bx b (rS1 bx b (rS1 bx b (rS1 bx b (rS bx b c) c 0) c 1) c 2) c 3
def rM1 (m t : List Int) (c r : Nat) : List Int := setI t (4 * c + r) (bxor .u8 (bxor .u8 (bxor .u8 (timesI 2 (nthI m (4 * c + r))) (timesI 3 (nthI m (4 * c + (r + 1) % 4)))) (nthI m (4 * c + (r + 2) % 4))) (nthI m (4 * c + (r + 3) % 4)))
def rM (m : List Int) : Nat → List Int
  | 0 => m
  | c + 1 => rM1 m (rM1 m (rM1 m (rM1 m (rM m c) c 0) c 1) c 2) c 3
def rNx (bx b : List Int) (rd : Nat) : List Int := if rd + 1 < 10 then rM (rS bx b 4) 4 else rS bx b 4
def rX (b t w : List Int) (rd : Nat) : Nat → List Int
  | 0 => b
  | i + 1 => setI (rX b t w rd i) i (bxor .u8 (nthI t i) (nthI w (16 * (rd + 1) + i)))
def cryS (w bx b : List Int) : Nat → List Int
  | 0 => aW b w 16
  | rd + 1 => rX (cryS w bx b rd) (rNx bx (cryS w bx b rd) rd) w rd 16
def cryL (w bx b : List Int) : List Int := cryS w bx b 10
def rSt (w bx b : List Int) (rd c : Nat) : List Int := rS bx (cryS w bx b rd) c
def rMt (w bx b : List Int) (rd c : Nat) : List Int := rM (rSt w bx b rd 4) c
def rNt (w bx b : List Int) (rd : Nat) : List Int := rNx bx (cryS w bx b rd) rd
def rXt (w bx b : List Int) (rd i : Nat) : List Int := rX (cryS w bx b rd) (rNt w bx b rd) w rd i
theorem cr_a {c : Nat} {r : Int} (hc : c ≤ 4) (hr : 0 ≤ r ∧ r ≤ 4) : wadd .i64 (wmul .i64 4 (c : Int)) r = ((4 * c + r.toNat : Nat) : Int) := by
  rw [wmul_i64 (by omega), wadd_i64 (by omega)]; omega
theorem cr_b {c : Nat} {r s : Int} (hc : c ≤ 4) (hr : 0 ≤ r ∧ r ≤ 4) (hs : 0 ≤ s ∧ s ≤ 4) : wadd .i64 (wmul .i64 4 (wrem .i64 (wadd .i64 (c : Int) r) 4)) s = ((4 * ((c + r.toNat) % 4) + s.toNat : Nat) : Int) := by
  have e0 : wadd .i64 (c : Int) r = ((c + r.toNat : Nat) : Int) := by rw [wadd_i64 (by omega)]; omega
  have e : wrem .i64 ((c + r.toNat : Nat) : Int) 4 = (((c + r.toNat) % 4 : Nat) : Int) := rfl
  rw [e0, e, wmul_i64 (by omega), wadd_i64 (by omega)]; omega
theorem cr_a0 {c : Nat} (hc : c ≤ 4) : wadd .i64 (wmul .i64 4 (c : Int)) 0 = ((4 * c + 0 : Nat) : Int) := cr_a hc (by decide)
theorem cr_b0 {c : Nat} (hc : c ≤ 4) : wadd .i64 (wmul .i64 4 (wrem .i64 (wadd .i64 (c : Int) 0) 4)) 0 = ((4 * ((c + 0) % 4) + 0 : Nat) : Int) := cr_b hc (by decide) (by decide)
theorem cr_a1 {c : Nat} (hc : c ≤ 4) : wadd .i64 (wmul .i64 4 (c : Int)) 1 = ((4 * c + 1 : Nat) : Int) := cr_a hc (by decide)
theorem cr_b1 {c : Nat} (hc : c ≤ 4) : wadd .i64 (wmul .i64 4 (wrem .i64 (wadd .i64 (c : Int) 1) 4)) 1 = ((4 * ((c + 1) % 4) + 1 : Nat) : Int) := cr_b hc (by decide) (by decide)
theorem cr_a2 {c : Nat} (hc : c ≤ 4) : wadd .i64 (wmul .i64 4 (c : Int)) 2 = ((4 * c + 2 : Nat) : Int) := cr_a hc (by decide)
theorem cr_b2 {c : Nat} (hc : c ≤ 4) : wadd .i64 (wmul .i64 4 (wrem .i64 (wadd .i64 (c : Int) 2) 4)) 2 = ((4 * ((c + 2) % 4) + 2 : Nat) : Int) := cr_b hc (by decide) (by decide)
theorem cr_a3 {c : Nat} (hc : c ≤ 4) : wadd .i64 (wmul .i64 4 (c : Int)) 3 = ((4 * c + 3 : Nat) : Int) := cr_a hc (by decide)
theorem cr_b3 {c : Nat} (hc : c ≤ 4) : wadd .i64 (wmul .i64 4 (wrem .i64 (wadd .i64 (c : Int) 3) 4)) 3 = ((4 * ((c + 3) % 4) + 3 : Nat) : Int) := cr_b hc (by decide) (by decide)
section
variable {w bx b : List Int} {rd c i : Nat}
theorem rSt_s : rSt w bx b rd c.succ = setI (setI (setI (setI (rSt w bx b rd c) (4 * c + 0) (nthI bx (nthI (cryS w bx b rd) (4 * ((c + 0) % 4) + 0)).toNat)) (4 * c + 1) (nthI bx (nthI (cryS w bx b rd) (4 * ((c + 1) % 4) + 1)).toNat)) (4 * c + 2) (nthI bx (nthI (cryS w bx b rd) (4 * ((c + 2) % 4) + 2)).toNat)) (4 * c + 3) (nthI bx (nthI (cryS w bx b rd) (4 * ((c + 3) % 4) + 3)).toNat) := rfl
theorem rMt_s : rMt w bx b rd c.succ = setI (setI (setI (setI (rMt w bx b rd c) (4 * c + 0) (bxor .u8 (bxor .u8 (bxor .u8 (timesI 2 (nthI (rSt w bx b rd 4) (4 * c + 0))) (timesI 3 (nthI (rSt w bx b rd 4) (4 * c + 1)))) (nthI (rSt w bx b rd 4) (4 * c + 2))) (nthI (rSt w bx b rd 4) (4 * c + 3)))) (4 * c + 1) (bxor .u8 (bxor .u8 (bxor .u8 (timesI 2 (nthI (rSt w bx b rd 4) (4 * c + 1))) (timesI 3 (nthI (rSt w bx b rd 4) (4 * c + 2)))) (nthI (rSt w bx b rd 4) (4 * c + 3))) (nthI (rSt w bx b rd 4) (4 * c + 0)))) (4 * c + 2) (bxor .u8 (bxor .u8 (bxor .u8 (timesI 2 (nthI (rSt w bx b rd 4) (4 * c + 2))) (timesI 3 (nthI (rSt w bx b rd 4) (4 * c + 3)))) (nthI (rSt w bx b rd 4) (4 * c + 0))) (nthI (rSt w bx b rd 4) (4 * c + 1)))) (4 * c + 3) (bxor .u8 (bxor .u8 (bxor .u8 (timesI 2 (nthI (rSt w bx b rd 4) (4 * c + 3))) (timesI 3 (nthI (rSt w bx b rd 4) (4 * c + 0)))) (nthI (rSt w bx b rd 4) (4 * c + 1))) (nthI (rSt w bx b rd 4) (4 * c + 2))) := rfl
theorem rSt_0 : rSt w bx b rd 0 = zerosI 16 := rfl
theorem rMt_0 : rMt w bx b rd 0 = rSt w bx b rd 4 := rfl
theorem aW_0 : aW b w 0 = b := rfl
theorem aW_s : aW b w i.succ = setI (aW b w i) i (bxor .u8 (nthI (aW b w i) i) (nthI w i)) := rfl
theorem cryS_0 : cryS w bx b 0 = aW b w 16 := rfl
theorem cryS_s : cryS w bx b rd.succ = rXt w bx b rd 16 := rfl
theorem rXt_0 : rXt w bx b rd 0 = cryS w bx b rd := rfl
theorem rXt_s : rXt w bx b rd i.succ = setI (rXt w bx b rd i) i (bxor .u8 (nthI (rNt w bx b rd) i) (nthI w (16 * (rd + 1) + i))) := rfl
theorem rNt_t (h : rd + 1 < 10) : rNt w bx b rd = rMt w bx b rd 4 := by rw [rNt, rNx, if_pos h, rMt, rSt]
theorem rNt_f (h : ¬ rd + 1 < 10) : rNt w bx b rd = rSt w bx b rd 4 := by rw [rNt, rNx, if_neg h, rSt]
theorem cry_e : cryL w bx b = cryS w bx b 10 := rfl
end
theorem rx_i {rd i : Nat} (hr : rd ≤ 10) (hi : i ≤ 16) : wadd .i64 (wmul .i64 16 (lenJ rd)) (i : Int) = ((16 * (rd + 1) + i : Nat) : Int) := by
  have e := lenJ_val rd
  rw [wmul_i64 (by omega), wadd_i64 (by omega)]; omega
def cCry (ap : AP) : Ctr
  | [.b n 1 (.ints .u8 n' w), .b m 1 (.ints .u8 m' bx), .v (.ints .u8 16 b)] => .chk (ap _ _ (ap _ _ eqN n) 176) <| .chk (ap _ _ (ap _ _ eqN n') 176) <| .chk (ap _ _ (ap _ _ eqN m) 256) <| .chk (ap _ _ (ap _ _ eqN m') 256) <|
      .ok ⟨.ints .u8 16 (ap _ _ (ap _ _ (ap _ _ cryL w) bx) b), [], []⟩
  | _ => .fail 445
def aCry (ap : AP) (w bx b : List Int) : List (Nat × Ann) := [
  (0, .inv Nat (fun i => ⟨[(0, .sl (parH 0) [] 0 176 1 none), (1, .sl (parH 1) [] 0 256 1 none), (6, .ptr 6 []), (7, .ptr 7 []), (8, .int .i64 (ap _ _ lenI i))], [(parH 0, ⟨.bor, .ints .u8 176 w⟩), (parH 1, ⟨.bor, .ints .u8 256 bx⟩), (6, ⟨.own, .ints .u8 16 (ap _ _ zerosI 16)⟩), (7, ⟨.own, .ints .u8 16 (ap _ _ (ap _ _ (ap _ _ aW b) w) i)⟩)], []⟩) (fun i => i ≤ 16) (fun i => 16 - i)),
  (1, .nest Nat (fun rd => ⟨[(0, .sl (parH 0) [] 0 176 1 none), (1, .sl (parH 1) [] 0 256 1 none), (6, .ptr 6 []), (7, .ptr 7 []), (9, .int .i64 (ap _ _ lenJ rd))], [(parH 0, ⟨.bor, .ints .u8 176 w⟩), (parH 1, ⟨.bor, .ints .u8 256 bx⟩), (6, ⟨.own, .ints .u8 16 (ap _ _ zerosI 16)⟩), (7, ⟨.own, .ints .u8 16 (ap _ _ (ap _ _ (ap _ _ (ap _ _ cryS w) bx) b) rd)⟩)], []⟩) (fun rd => rd ≤ 10) (fun rd => 10 - rd)
    (fun rd => [
      (2, .nest Nat (fun c => ⟨[(0, .sl (parH 0) [] 0 176 1 none), (1, .sl (parH 1) [] 0 256 1 none), (6, .ptr 6 []), (7, .ptr 7 []), (9, .int .i64 (ap _ _ lenJ rd)), (10, .ptr 10 []), (11, .int .i64 (ap _ _ lenI c))], [(parH 0, ⟨.bor, .ints .u8 176 w⟩), (parH 1, ⟨.bor, .ints .u8 256 bx⟩), (6, ⟨.own, .ints .u8 16 (ap _ _ zerosI 16)⟩), (7, ⟨.own, .ints .u8 16 (ap _ _ (ap _ _ (ap _ _ (ap _ _ cryS w) bx) b) rd)⟩), (10, ⟨.own, .ints .u8 16 (ap _ _ (ap _ _ (ap _ _ (ap _ _ (ap _ _ rSt w) bx) b) rd) c)⟩)], []⟩) (fun c => c ≤ 4) (fun c => 4 - c)
        (fun _ => [(3, .unroll 5)])),
      (4, .nest Nat (fun e => ⟨[(0, .sl (parH 0) [] 0 176 1 none), (1, .sl (parH 1) [] 0 256 1 none), (6, .ptr 6 []), (7, .ptr 7 []), (9, .int .i64 (ap _ _ lenJ rd)), (10, .ptr 10 []), (13, .ptr 13 []), (14, .int .i64 (ap _ _ lenI e))], [(parH 0, ⟨.bor, .ints .u8 176 w⟩), (parH 1, ⟨.bor, .ints .u8 256 bx⟩), (6, ⟨.own, .ints .u8 16 (ap _ _ zerosI 16)⟩), (7, ⟨.own, .ints .u8 16 (ap _ _ (ap _ _ (ap _ _ (ap _ _ cryS w) bx) b) rd)⟩), (10, ⟨.own, .ints .u8 16 (ap _ _ (ap _ _ (ap _ _ (ap _ _ (ap _ _ rMt w) bx) b) rd) e)⟩), (13, ⟨.own, .ints .u8 16 (ap _ _ (ap _ _ (ap _ _ (ap _ _ (ap _ _ rSt w) bx) b) rd) 4)⟩)], []⟩) (fun e => e ≤ 4) (fun e => 4 - e)
        (fun _ => [(5, .unroll 5)])),
      (6, .inv Nat (fun l => ⟨[(0, .sl (parH 0) [] 0 176 1 none), (1, .sl (parH 1) [] 0 256 1 none), (6, .ptr 6 []), (7, .ptr 7 []), (9, .int .i64 (ap _ _ lenJ rd)), (10, .ptr 10 []), (16, .int .i64 (ap _ _ lenI l))], [(parH 0, ⟨.bor, .ints .u8 176 w⟩), (parH 1, ⟨.bor, .ints .u8 256 bx⟩), (6, ⟨.own, .ints .u8 16 (ap _ _ zerosI 16)⟩), (7, ⟨.own, .ints .u8 16 (ap _ _ (ap _ _ (ap _ _ (ap _ _ (ap _ _ rXt w) bx) b) rd) l)⟩), (10, ⟨.own, .ints .u8 16 (ap _ _ (ap _ _ (ap _ _ (ap _ _ rNt w) bx) b) rd)⟩)], []⟩) (fun l => l ≤ 16) (fun l => 16 - l))]))]
set_option maxRecDepth 20000 in
set_option maxHeartbeats 2000000 in
theorem vc158 (args : List Arg) (out : Out) (h : (cCry apf args).to out) (hok : okAs args) :
    args.length = ic158.nargs ∧ ic158.nargs ≤ ic158.ntmps ∧ ∃ A, run apf [(159, (fun args => cTimes apf (args.map litA)))] A ic158.body (fnQ apf args out ic158.res) (st0 G1 true args) := by
  unfold cCry at h
  split at h
  · rename_i n n' w m m' bx b
    obtain ⟨hn, hn', hm, hm', h⟩ := h
    cases h
    cases (show n = 176 from hn)
    cases (show n' = 176 from hn')
    cases (show m = 256 from hm)
    cases (show m' = 256 from hm')
    clear hn hm hn' hm'
    refine ⟨rfl, by decide, aCry apf w bx b, ?_⟩
    show run apf _ _ _ _ (st0 [(1, .ints .u32 64 kk)] _ _)
    generalize hK : kk = K
    generalize hap : apf = ap
    cbv
    repeat' first
      | exact True.intro
      | (intro (hh : _ = true); first | with_reducible exact False.elim (tf_no (Eq.trans (Eq.symm (show _ = true by assumption)) hh)) | cbv)
      | (intro (hh : _ = false); first | with_reducible exact False.elim (tf_no (Eq.trans (Eq.symm hh) (show _ = false by assumption))) | cbv)
      | with_reducible refine And.intro ?_ ?_
      | (refine ⟨0, Nat.zero_le _, ?_⟩; cbv)
    all_goals first
      | (intro (i : Nat) hi hts hhs
         have hi : i ≤ 16 := hi
         all_goals try cbv
         repeat' first
           | exact True.intro
           | (intro (hh : _ = true); first | with_reducible exact False.elim (tf_no (Eq.trans (Eq.symm (show _ = true by assumption)) hh)) | cbv)
           | (intro (hh : _ = false); first | with_reducible exact False.elim (tf_no (Eq.trans (Eq.symm hh) (show _ = false by assumption))) | cbv)
           | with_reducible refine And.intro ?_ ?_
           | (refine ⟨i + 1, ?_, (?_ : _ < _), ?_⟩; rotate_left 2; try cbv)
           | (refine ⟨0, Nat.zero_le _, ?_⟩; cbv))
      | skip
    all_goals first
      | (intro (rd : Nat) hi hts hhs
         have hrd : rd ≤ 10 := hi
         all_goals try cbv
         repeat' first
           | exact True.intro
           | (intro (hh : _ = true); first | with_reducible exact False.elim (tf_no (Eq.trans (Eq.symm (show _ = true by assumption)) hh)) | cbv)
           | (intro (hh : _ = false); first | with_reducible exact False.elim (tf_no (Eq.trans (Eq.symm hh) (show _ = false by assumption))) | cbv)
           | with_reducible refine And.intro ?_ ?_
           | (refine ⟨rd + 1, ?_, (?_ : _ < _), ?_⟩; rotate_left 2; try cbv)
           | (refine ⟨0, Nat.zero_le _, ?_⟩; cbv))
      | skip
    all_goals first
      | (intro (c : Nat) hi hts hhs
         have hc : c ≤ 4 := hi
         all_goals try cbv
         repeat' first
           | exact True.intro
           | (intro (hh : _ = true); first | with_reducible exact False.elim (tf_no (Eq.trans (Eq.symm (show _ = true by assumption)) hh)) | cbv)
           | (intro (hh : _ = false); first | with_reducible exact False.elim (tf_no (Eq.trans (Eq.symm hh) (show _ = false by assumption))) | cbv)
           | with_reducible refine And.intro ?_ ?_
           | (refine ⟨c + 1, ?_, (?_ : Nat.sub 4 (c + 1) < Nat.sub 4 c), ?_⟩; rotate_left 2; try cbv)
           | (refine ⟨0, Nat.zero_le _, ?_⟩; cbv))
      | skip
    all_goals first
      | (intro (e : Nat) hi hts hhs
         have he : e ≤ 4 := hi
         all_goals try cbv
         repeat' first
           | exact True.intro
           | (intro (hh : _ = true); first | with_reducible exact False.elim (tf_no (Eq.trans (Eq.symm (show _ = true by assumption)) hh)) | cbv)
           | (intro (hh : _ = false); first | with_reducible exact False.elim (tf_no (Eq.trans (Eq.symm hh) (show _ = false by assumption))) | cbv)
           | with_reducible refine And.intro ?_ ?_
           | (refine ⟨e + 1, ?_, (?_ : Nat.sub 4 (e + 1) < Nat.sub 4 e), ?_⟩; rotate_left 2; try cbv)
           | (refine ⟨0, Nat.zero_le _, ?_⟩; cbv))
      | skip
    all_goals first
      | (intro (l : Nat) hi hts hhs
         have hl : l ≤ 16 := hi
         all_goals try cbv
         repeat' first
           | exact True.intro
           | (intro (hh : _ = true); first | with_reducible exact False.elim (tf_no (Eq.trans (Eq.symm (show _ = true by assumption)) hh)) | cbv)
           | (intro (hh : _ = false); first | with_reducible exact False.elim (tf_no (Eq.trans (Eq.symm hh) (show _ = false by assumption))) | cbv)
           | with_reducible refine And.intro ?_ ?_
           | (refine ⟨l + 1, ?_, (?_ : Nat.sub 16 (l + 1) < Nat.sub 16 l), ?_⟩; rotate_left 2; try cbv)
           | (refine ⟨rd + 1, ?_, (?_ : Nat.sub 10 (rd + 1) < Nat.sub 10 rd), ?_⟩; rotate_left 2; try cbv)
           | (refine ⟨0, Nat.zero_le _, ?_⟩; cbv))
      | skip
    all_goals subst hap
    all_goals try simp only [apf_e, arF_add, arF_mul, arF_rem8, arF_xor, cmF_l, cmF_le, lt_t, lt_f, le_t, le_f, eqN, eqI', eqL', ltN, natI, lenI] at *
    all_goals try simp only [addN0]
    all_goals try simp only [cr_b0 hc, cr_b1 hc, cr_b2 hc, cr_b3 hc]
    all_goals try simp only [cr_a0 hc, cr_a1 hc, cr_a2 hc, cr_a3 hc]
    all_goals try simp only [cr_a0 he, cr_a1 he, cr_a2 he, cr_a3 he]
    all_goals try simp only [rx_i hrd hl]
    all_goals try simp only [Int.toNat_natCast]
    all_goals try have hJ := lenJ_val rd
    all_goals first
      | omega
      | (show 16 - (i + 1) < 16 - i; omega)
      | (show 16 - (l + 1) < 16 - l; omega)
      | (show 10 - (rd + 1) < 10 - rd; omega)
      | (show 4 - (c + 1) < 4 - c; omega)
      | (show 4 - (e + 1) < 4 - e; omega)
      | (with_reducible first | exact (inc_i64 (i := i) (by omega)).symm | exact (inc_i64 (i := c) (by omega)).symm | exact (inc_i64 (i := e) (by omega)).symm | exact (inc_i64 (i := l) (by omega)).symm | exact (lenJ_add (by omega)).symm | exact rSt_0 | exact rSt_s | exact rMt_0 | exact rMt_s | exact aW_0 | exact aW_s | exact rXt_0 | exact rXt_s)
      | (have h4 : i = 16 := by omega
         subst h4
         with_reducible exact cryS_0)
      | (have h4 : rd = 10 := by omega
         subst h4
         with_reducible exact cry_e)
      | (have h4 : l = 16 := by omega
         subst h4
         with_reducible exact cryS_s)
      | (have h4 : e = 4 := by omega
         subst h4
         with_reducible exact rNt_t (by omega))
      | (have h4 : c = 4 := by omega
         subst h4
         with_reducible first | exact rfl | exact rMt_0 | exact rNt_f (by omega))
      | (have hw : ∀ y ∈ cryS w bx b rd, inR .u8 y := hhs.2.2.2.1.2
         have h0 := nthI_rng (i := 4 * ((c + 0) % 4) + 0) hw
         have h1 := nthI_rng (i := 4 * ((c + 1) % 4) + 1) hw
         have h2 := nthI_rng (i := 4 * ((c + 2) % 4) + 2) hw
         have h3 := nthI_rng (i := 4 * ((c + 3) % 4) + 3) hw
         first | with_reducible exact h0.1 | with_reducible exact h1.1 | with_reducible exact h2.1 | with_reducible exact h3.1 | omega)
      | (with_reducible show lenJ 0 = 1
         exact rfl)
      | skip
  · exact h.elim
set_option maxHeartbeats 2000000 in
theorem s158 : Sound Tryd.prog G1 158 (pu 158) (cCry apf) := fn_sound rfl Tryd.call158 ok158 co158 (env_cons s159 env_nil) vc158
end Go.Cx.Rb
/- CxbEA -/
namespace Go.Cx.Rb
open Go Go.Cx
theorem setI_len {l : List Int} {i : Nat} {x : Int} : (setI l i x).length = l.length := List.length_set
theorem nthI_setJ {l : List Int} {i j : Nat} {x : Int} (h : i < l.length) : nthI (setI l i x) j = if j = i then x else nthI l j := by
  simp only [nthI, setI, List.getD_eq_getElem?_getD, List.getElem?_set]
  by_cases e : i = j
  · subst e
    rw [if_pos rfl, if_pos h, if_pos rfl]
    rfl
  · rw [if_neg e, if_neg (fun h => e h.symm)]
theorem list_ext {a b : List Int} {n : Nat} (ha : a.length = n) (hb : b.length = n) (h : ∀ i, i < n → nthI a i = nthI b i) : a = b := by
  apply List.ext_getElem (ha.trans hb.symm)
  intro i h1 h2
  have := h i (by omega)
  simpa [nthI, List.getD_eq_getElem?_getD, h1, h2] using this
theorem nthI_zeros {n i : Nat} : nthI (zerosI n) i = 0 := by
  simp only [nthI, zerosI, List.getD_eq_getElem?_getD, List.getElem?_replicate]
  split <;> rfl
theorem zeros_len {n : Nat} : (zerosI n).length = n := List.length_replicate
theorem rkS_spec {b : List Int} {x : Nat → List Int} {r : Int} (hb : b.length = 16) : ∀ i, i ≤ 16 → (rkS b x r i).length = 16 ∧
    ∀ j, nthI (rkS b x r i) j = if j < i then bxor .u8 (nthI b j) (nthI (x (4 * r.toNat + j / 4)) (j % 4)) else nthI b j := by
  intro i
  induction i with
  | zero => exact fun _ => ⟨hb, fun j => rfl⟩
  | succ i ih =>
    intro hi
    obtain ⟨h1, h2⟩ := ih (by omega)
    refine ⟨setI_len.trans h1, fun j => ?_⟩
    rw [rkS, nthI_setJ (by omega), h2 i, if_neg (Nat.lt_irrefl i), h2 j]
    by_cases e : j = i
    · subst e
      rw [if_pos rfl, if_pos (by omega)]
    · rw [if_neg e]
      by_cases e2 : j < i
      · rw [if_pos e2, if_pos (by omega)]
      · rw [if_neg e2, if_neg (by omega)]
theorem aW_spec {b w : List Int} (hb : b.length = 16) : ∀ i, i ≤ 16 → (aW b w i).length = 16 ∧
    ∀ j, nthI (aW b w i) j = if j < i then bxor .u8 (nthI b j) (nthI w j) else nthI b j := by
  intro i
  induction i with
  | zero => exact fun _ => ⟨hb, fun j => rfl⟩
  | succ i ih =>
    intro hi
    obtain ⟨h1, h2⟩ := ih (by omega)
    refine ⟨setI_len.trans h1, fun j => ?_⟩
    rw [aW, nthI_setJ (by omega), h2 i, if_neg (Nat.lt_irrefl i), h2 j]
    by_cases e : j = i
    · subst e
      rw [if_pos rfl, if_pos (by omega)]
    · rw [if_neg e]
      by_cases e2 : j < i
      · rw [if_pos e2, if_pos (by omega)]
      · rw [if_neg e2, if_neg (by omega)]
theorem rX_spec {b t w : List Int} {rd : Nat} (hb : b.length = 16) : ∀ i, i ≤ 16 → (rX b t w rd i).length = 16 ∧
    ∀ j, nthI (rX b t w rd i) j = if j < i then bxor .u8 (nthI t j) (nthI w (16 * (rd + 1) + j)) else nthI b j := by
  intro i
  induction i with
  | zero => exact fun _ => ⟨hb, fun j => rfl⟩
  | succ i ih =>
    intro hi
    obtain ⟨h1, h2⟩ := ih (by omega)
    refine ⟨setI_len.trans h1, fun j => ?_⟩
    rw [rX, nthI_setJ (by omega), h2 j]
    by_cases e : j = i
    · subst e
      rw [if_pos rfl, if_pos (by omega)]
    · rw [if_neg e]
      by_cases e2 : j < i
      · rw [if_pos e2, if_pos (by omega)]
      · rw [if_neg e2, if_neg (by omega)]
theorem tS_spec {bx b : List Int} : ∀ i, i ≤ 16 → (tS bx b i).length = 16 ∧
    ∀ j, nthI (tS bx b i) j = if j < i then nthI bx (nthI b ((j + 4 * (j % 4)) % 16)).toNat else 0 := by
  intro i
  induction i with
  | zero => exact fun _ => ⟨zeros_len, fun j => nthI_zeros⟩
  | succ i ih =>
    intro hi
    obtain ⟨h1, h2⟩ := ih (by omega)
    refine ⟨setI_len.trans h1, fun j => ?_⟩
    rw [tS, nthI_setJ (by omega), h2 j]
    by_cases e : j = i
    · subst e
      rw [if_pos rfl, if_pos (by omega)]
    · rw [if_neg e]
      by_cases e2 : j < i
      · rw [if_pos e2, if_pos (by omega)]
      · rw [if_neg e2, if_neg (by omega)]
/-- four places laid, one behind the other -/
theorem four_set {l : List Int} {c : Nat} {v0 v1 v2 v3 : Int} (h : 4 * c + 4 ≤ l.length) (j : Nat) :
    nthI (setI (setI (setI (setI l (4 * c + 0) v0) (4 * c + 1) v1) (4 * c + 2) v2) (4 * c + 3) v3) j =
      if j / 4 = c then (if j % 4 = 0 then v0 else if j % 4 = 1 then v1 else if j % 4 = 2 then v2 else v3) else nthI l j := by
  rw [nthI_setJ (by simp only [setI_len]; omega), nthI_setJ (by simp only [setI_len]; omega), nthI_setJ (by simp only [setI_len]; omega), nthI_setJ (by omega)]
  by_cases e : j / 4 = c
  · rw [if_pos e]
    have hm : j % 4 = 0 ∨ j % 4 = 1 ∨ j % 4 = 2 ∨ j % 4 = 3 := by omega
    rcases hm with h | h | h | h
    · rw [if_neg (by omega), if_neg (by omega), if_neg (by omega), if_pos (by omega), if_pos h]
    · rw [if_neg (by omega), if_neg (by omega), if_pos (by omega), if_neg (by omega), if_pos h]
    · rw [if_neg (by omega), if_pos (by omega), if_neg (by omega), if_neg (by omega), if_pos h]
    · rw [if_pos (by omega), if_neg (by omega), if_neg (by omega), if_neg (by omega)]
  · rw [if_neg (by omega), if_neg (by omega), if_neg (by omega), if_neg (by omega), if_neg e]
theorem rS_spec {bx b : List Int} : ∀ c, c ≤ 4 → (rS bx b c).length = 16 ∧
    ∀ j, nthI (rS bx b c) j = if j < 4 * c then nthI bx (nthI b (4 * ((j / 4 + j % 4) % 4) + j % 4)).toNat else 0 := by
  intro c
  induction c with
  | zero => exact fun _ => ⟨zeros_len, fun j => nthI_zeros⟩
  | succ c ih =>
    intro hi
    obtain ⟨h1, h2⟩ := ih (by omega)
    refine ⟨by simp only [rS, rS1, setI_len, h1], fun j => ?_⟩
    rw [rS]
    unfold rS1
    rw [four_set (by omega), h2 j]
    by_cases e : j / 4 = c
    · have hlt : j < 4 * (c + 1) := by omega
      rw [if_pos e, if_pos hlt]
      have hm : j % 4 = 0 ∨ j % 4 = 1 ∨ j % 4 = 2 ∨ j % 4 = 3 := by omega
      rw [e]
      rcases hm with h | h | h | h <;> rw [h] <;> rfl
    · rw [if_neg e]
      by_cases e2 : j < 4 * c
      · rw [if_pos e2, if_pos (by omega)]
      · rw [if_neg e2, if_neg (by omega)]
theorem tS_rS {bx b : List Int} : tS bx b 16 = rS bx b 4 := by
  refine list_ext (tS_spec 16 (Nat.le_refl _)).1 (rS_spec 4 (Nat.le_refl _)).1 fun i hi => ?_
  rw [(tS_spec 16 (Nat.le_refl _)).2, (rS_spec 4 (Nat.le_refl _)).2, if_pos hi, if_pos (by omega), show (i + 4 * (i % 4)) % 16 = 4 * ((i / 4 + i % 4) % 4) + i % 4 by omega]
def B8 (x : Int) : BitVec 8 := BitVec.ofInt 8 x
def tw8 (v : BitVec 8) : BitVec 8 := if v.msb then (v <<< 1) ^^^ 27#8 else v <<< 1
def isB (x : Int) : Prop := 0 ≤ x ∧ x ≤ 255
theorem bxor_u8 (x y : Int) : bxor .u8 x y = ((B8 x ^^^ B8 y).toNat : Int) := by
  show IntKind.wrap .u8 (((B8 x ^^^ B8 y).toNat : Nat) : Int) = _
  exact IntWalk.u8_in _ ⟨by omega, by have := (B8 x ^^^ B8 y).isLt; omega⟩
theorem isB_nat (v : BitVec 8) : isB (v.toNat : Int) := ⟨by omega, by have := v.isLt; omega⟩
theorem isB_bxor (x y : Int) : isB (bxor .u8 x y) := by rw [bxor_u8]; exact isB_nat _
theorem B8_nat (v : BitVec 8) : B8 (v.toNat : Int) = v := by
  unfold B8
  rw [BitVec.ofInt_natCast, BitVec.ofNat_toNat, BitVec.setWidth_eq]
theorem B8_bxor (x y : Int) : B8 (bxor .u8 x y) = B8 x ^^^ B8 y := by rw [bxor_u8, B8_nat]
theorem nat_B8 {x : Int} (h : isB x) : ((B8 x).toNat : Int) = x := by
  unfold B8
  rw [BitVec.toNat_ofInt]
  have := h.1
  have := h.2
  omega
theorem chkTw : ((List.range 256).all fun i => decide (twI (i : Int) = ((tw8 (B8 (i : Int))).toNat : Int))) = true := by kernel_rfl
theorem twI_8 {x : Int} (h : isB x) : twI x = ((tw8 (B8 x)).toNat : Int) := by
  obtain ⟨i, rfl⟩ := Int.eq_ofNat_of_zero_le h.1
  have h2 := h.2
  exact of_decide_eq_true (List.all_eq_true.1 chkTw i (List.mem_range.2 (by omega)))
theorem isB_twI {x : Int} (h : isB x) : isB (twI x) := by rw [twI_8 h]; exact isB_nat _
theorem B8_twI {x : Int} (h : isB x) : B8 (twI x) = tw8 (B8 x) := by rw [twI_8 h, B8_nat]
theorem tw8_xor (u v : BitVec 8) : tw8 (u ^^^ v) = tw8 u ^^^ tw8 v := by
  unfold tw8
  rw [BitVec.msb_xor, BitVec.shiftLeft_xor_distrib]
  cases u.msb <;> cases v.msb
  · rfl
  · show (u <<< 1 ^^^ v <<< 1) ^^^ 27#8 = u <<< 1 ^^^ (v <<< 1 ^^^ 27#8)
    rw [BitVec.xor_assoc]
  · show (u <<< 1 ^^^ v <<< 1) ^^^ 27#8 = (u <<< 1 ^^^ 27#8) ^^^ v <<< 1
    rw [BitVec.xor_assoc, BitVec.xor_assoc, BitVec.xor_comm (v <<< 1)]
  · show (u <<< 1 ^^^ v <<< 1) = (u <<< 1 ^^^ 27#8) ^^^ (v <<< 1 ^^^ 27#8)
    rw [BitVec.xor_assoc, ← BitVec.xor_assoc 27#8, BitVec.xor_comm 27#8, BitVec.xor_assoc (v <<< 1), BitVec.xor_self, BitVec.xor_zero]
theorem mix_eq {a b c d : Int} (ha : isB a) (hb : isB b) (al : BitVec 8) (hal : al = ((B8 a ^^^ B8 b) ^^^ B8 c) ^^^ B8 d) :
    ((B8 a ^^^ (al ^^^ tw8 (B8 a ^^^ B8 b))).toNat : Int) = bxor .u8 (bxor .u8 (bxor .u8 (timesI 2 a) (timesI 3 b)) c) d := by
  rw [(times_two ha).1, (times_two hb).2.2, bxor_u8 (bxor .u8 (bxor .u8 (twI a) (bxor .u8 (twI b) b)) c), B8_bxor, B8_bxor, B8_bxor, B8_twI ha, B8_twI hb, tw8_xor, hal]
  congr 2
  generalize B8 a = a
  generalize B8 b = b
  generalize B8 c = c
  generalize B8 d = d
  generalize tw8 a = A
  generalize tw8 b = B
  ext k hk
  simp only [BitVec.getElem_xor]
  cases a[k] <;> cases b[k] <;> cases c[k] <;> cases d[k] <;> cases A[k] <;> cases B[k] <;> rfl
def rMG (t : List Int) (c r : Nat) : Int := bxor .u8 (bxor .u8 (bxor .u8 (timesI 2 (nthI t (4 * c + r))) (timesI 3 (nthI t (4 * c + (r + 1) % 4)))) (nthI t (4 * c + (r + 2) % 4))) (nthI t (4 * c + (r + 3) % 4))
/-- each byte of a list is one -/
def bytesL (l : List Int) : Prop := ∀ i, isB (nthI l i)
theorem mixL_at {l : List Int} {c : Nat} (hl : bytesL l) (h : 4 * c + 4 ≤ l.length) : mixL l (4 * c) =
    setI (setI (setI (setI l (4 * c + 0) (rMG l c 0)) (4 * c + 1) (rMG l c 1)) (4 * c + 2) (rMG l c 2)) (4 * c + 3) (rMG l c 3) := by
  have hb : ∀ r, isB (nthI l (4 * c + r)) := fun r => hl _
  unfold mixL mxAt mixA
  simp only [addN]
  have g1 : ∀ v, nthI (setI l (4 * c + 0) v) (4 * c + 1) = nthI l (4 * c + 1) := fun v => by rw [nthI_setJ (by omega), if_neg (by omega)]
  have g2 : ∀ v u, nthI (setI (setI l (4 * c + 0) v) (4 * c + 1) u) (4 * c + 2) = nthI l (4 * c + 2) := fun v u => by
    rw [nthI_setJ (by rw [setI_len]; omega), if_neg (by omega), nthI_setJ (by omega), if_neg (by omega)]
  have g3 : ∀ v u z, nthI (setI (setI (setI l (4 * c + 0) v) (4 * c + 1) u) (4 * c + 2) z) (4 * c + 3) = nthI l (4 * c + 3) := fun v u z => by
    rw [nthI_setJ (by simp only [setI_len]; omega), if_neg (by omega), nthI_setJ (by rw [setI_len]; omega), if_neg (by omega), nthI_setJ (by omega), if_neg (by omega)]
  simp only [g1, g2, g3]
  have key : ∀ a b c d, isB a → isB b → ∀ al : Int, B8 al = ((B8 a ^^^ B8 b) ^^^ B8 c) ^^^ B8 d →
      bxor .u8 a (bxor .u8 al (twI (bxor .u8 a b))) = bxor .u8 (bxor .u8 (bxor .u8 (timesI 2 a) (timesI 3 b)) c) d := fun a b c d ha hb al hal => by
    rw [bxor_u8 a, B8_bxor, B8_twI (isB_bxor _ _), B8_bxor]
    exact mix_eq ha hb _ hal
  generalize hA : nthI l (4 * c + 0) = A
  generalize hB : nthI l (4 * c + 1) = B
  generalize hC : nthI l (4 * c + 2) = C
  generalize hD : nthI l (4 * c + 3) = D
  have iA : isB A := hA ▸ hb 0
  have iB : isB B := hB ▸ hb 1
  have iC : isB C := hC ▸ hb 2
  have iD : isB D := hD ▸ hb 3
  have m0 : rMG l c 0 = bxor .u8 (bxor .u8 (bxor .u8 (timesI 2 A) (timesI 3 B)) C) D := by rw [← hA, ← hB, ← hC, ← hD]; rfl
  have m1 : rMG l c 1 = bxor .u8 (bxor .u8 (bxor .u8 (timesI 2 B) (timesI 3 C)) D) A := by rw [← hA, ← hB, ← hC, ← hD]; rfl
  have m2 : rMG l c 2 = bxor .u8 (bxor .u8 (bxor .u8 (timesI 2 C) (timesI 3 D)) A) B := by rw [← hA, ← hB, ← hC, ← hD]; rfl
  have m3 : rMG l c 3 = bxor .u8 (bxor .u8 (bxor .u8 (timesI 2 D) (timesI 3 A)) B) C := by rw [← hA, ← hB, ← hC, ← hD]; rfl
  have al : B8 (bxor .u8 (bxor .u8 (bxor .u8 A B) C) D) = ((B8 A ^^^ B8 B) ^^^ B8 C) ^^^ B8 D := by rw [B8_bxor, B8_bxor, B8_bxor]
  have ac : ∀ a b c d : BitVec 8, ((a ^^^ b) ^^^ c) ^^^ d = ((b ^^^ c) ^^^ d) ^^^ a := fun a b c d => by rw [BitVec.xor_assoc a, BitVec.xor_assoc a, BitVec.xor_comm a]
  rw [m0, m1, m2, m3, key A B C D iA iB _ al, key B C D A iB iC _ (al.trans (ac _ _ _ _)), key C D A B iC iD _ (al.trans ((ac _ _ _ _).trans (ac _ _ _ _))), key D A B C iD iA _ (al.trans ((ac _ _ _ _).trans ((ac _ _ _ _).trans (ac _ _ _ _))))]
theorem rMG_same {l m : List Int} {c : Nat} (h : ∀ r, r < 4 → nthI l (4 * c + r) = nthI m (4 * c + r)) (r : Nat) (hr : r < 4) : rMG l c r = rMG m c r := by
  unfold rMG
  rw [h r hr, h _ (Nat.mod_lt _ (by omega)), h _ (Nat.mod_lt _ (by omega)), h _ (Nat.mod_lt _ (by omega))]
theorem bytes_set {l : List Int} {i : Nat} {x : Int} (hl : bytesL l) (hx : isB x) : bytesL (setI l i x) := fun j => by
  by_cases h : i < l.length
  · rw [nthI_setJ h]
    split
    · exact hx
    · exact hl j
  · have e : setI l i x = l := List.set_eq_of_length_le (by omega)
    rw [e]; exact hl j
theorem isB_rMG (t : List Int) (c r : Nat) : isB (rMG t c r) := isB_bxor _ _
theorem mS_rM {m : List Int} (hm : m.length = 16) (hb : bytesL m) : ∀ c, c ≤ 4 → mS m c = rM m c ∧ (rM m c).length = 16 ∧ bytesL (rM m c) ∧ ∀ j, 4 * c ≤ j → nthI (rM m c) j = nthI m j := by
  intro c
  induction c with
  | zero => exact fun _ => ⟨rfl, hm, hb, fun _ _ => rfl⟩
  | succ c ih =>
    intro hc
    obtain ⟨h1, h2, h3, h4⟩ := ih (by omega)
    have e : rM m (c + 1) = setI (setI (setI (setI (rM m c) (4 * c + 0) (rMG m c 0)) (4 * c + 1) (rMG m c 1)) (4 * c + 2) (rMG m c 2)) (4 * c + 3) (rMG m c 3) := rfl
    refine ⟨?_, by rw [e]; simp only [setI_len, h2], by rw [e]; exact bytes_set (bytes_set (bytes_set (bytes_set h3 (isB_rMG _ _ _)) (isB_rMG _ _ _)) (isB_rMG _ _ _)) (isB_rMG _ _ _), fun j hj => ?_⟩
    · have hs : ∀ r, r < 4 → rMG (rM m c) c r = rMG m c r := rMG_same fun r _ => h4 _ (by omega)
      rw [mS, h1, mixL_at h3 (by omega), e, hs 0 (by omega), hs 1 (by omega), hs 2 (by omega), hs 3 (by omega)]
    · rw [e, four_set (by omega), if_neg (by omega), h4 _ (by omega)]
def sameKeys (x : Nat → List Int) (w : List Int) : Prop := ∀ j i, j < 44 → i < 4 → nthI (x j) i = nthI w (4 * j + i)
theorem blk_cry {bx b w : List Int} {x : Nat → List Int} (hx : sameKeys x w) (hbx : bytesL bx) (hb : b.length = 16) :
    ∀ rd, rd ≤ 10 → blkS bx x b rd = cryS w bx b rd ∧ (cryS w bx b rd).length = 16 := by
  have at_ : ∀ r i, r ≤ 10 → i < 16 → nthI (x (4 * r + i / 4)) (i % 4) = nthI w (16 * r + i) := fun r i hr hi => by
    rw [hx _ _ (by omega) (Nat.mod_lt _ (by omega)), show 4 * (4 * r + i / 4) + i % 4 = 16 * r + i by omega]
  intro rd
  induction rd with
  | zero =>
    refine fun _ => ⟨?_, (aW_spec hb 16 (Nat.le_refl _)).1⟩
    refine list_ext (rkS_spec hb 16 (Nat.le_refl _)).1 (aW_spec hb 16 (Nat.le_refl _)).1 fun i hi => ?_
    show nthI (rkS b x 0 16) i = _
    rw [(rkS_spec hb 16 (Nat.le_refl _)).2, show cryS w bx b 0 = aW b w 16 from rfl, (aW_spec hb 16 (Nat.le_refl _)).2, if_pos hi, if_pos hi]
    have := at_ 0 i (by omega) hi
    rw [show ((0 : Int)).toNat = 0 from rfl, this, show 16 * 0 + i = i by omega]
  | succ rd ih =>
    intro hrd
    obtain ⟨h1, h2⟩ := ih (by omega)
    have hl := (rX_spec (t := rNx bx (cryS w bx b rd) rd) (w := w) (rd := rd) h2 16 (Nat.le_refl _))
    have hn : mNxt bx (cryS w bx b rd) rd = rNx bx (cryS w bx b rd) rd ∧ (rNx bx (cryS w bx b rd) rd).length = 16 := by
      unfold mNxt rNx
      rw [tS_rS]
      have hsl := (rS_spec (bx := bx) (b := cryS w bx b rd) 4 (Nat.le_refl _)).1
      have hsb : bytesL (rS bx (cryS w bx b rd) 4) := fun j => by
        rw [(rS_spec 4 (Nat.le_refl _)).2]
        split
        · exact hbx _
        · exact ⟨by omega, by omega⟩
      split
      · have := mS_rM hsl hsb 4 (Nat.le_refl _)
        exact ⟨this.1, this.2.1⟩
      · exact ⟨rfl, hsl⟩
    refine ⟨?_, hl.1⟩
    rw [blkS, h1, hn.1]
    refine list_ext (rkS_spec hn.2 16 (Nat.le_refl _)).1 hl.1 fun i hi => ?_
    show nthI (rkS _ x (lenJ rd) 16) i = _
    rw [(rkS_spec hn.2 16 (Nat.le_refl _)).2, show cryS w bx b (rd + 1) = rX (cryS w bx b rd) (rNx bx (cryS w bx b rd) rd) w rd 16 from rfl, hl.2, if_pos hi, if_pos hi]
    have e : (lenJ rd).toNat = rd + 1 := Int.toNat_natCast _
    rw [e, at_ (rd + 1) i (by omega) hi]
theorem kA_spec {key : List Int} : ∀ i, i ≤ 16 → ∀ j, j < 44 → (kA key i j).length = 4 ∧ ∀ k, k < 4 → nthI (kA key i j) k = if 4 * j + k < i then nthI key (4 * j + k) else 0 := by
  intro i
  induction i with
  | zero => exact fun _ j _ => ⟨zeros_len, fun k _ => nthI_zeros⟩
  | succ i ih =>
    intro hi j hj
    show (updK (kA key i) (i / 4) _ j).length = 4 ∧ ∀ k, k < 4 → nthI (updK (kA key i) (i / 4) _ j) k = _
    unfold updK
    by_cases e : j = i / 4
    · rw [if_pos e]
      subst e
      obtain ⟨h1, h2⟩ := ih (by omega) (i / 4) (by omega)
      refine ⟨setI_len.trans h1, fun k hk => ?_⟩
      rw [nthI_setJ (by rw [h1]; omega), h2 k hk]
      by_cases e2 : k = i % 4
      · rw [if_pos e2, if_pos (by omega), show 4 * (i / 4) + k = i by omega]
      · rw [if_neg e2]
        by_cases e3 : 4 * (i / 4) + k < i
        · rw [if_pos e3, if_pos (by omega)]
        · rw [if_neg e3, if_neg (by omega)]
    · rw [if_neg e]
      obtain ⟨h1, h2⟩ := ih (by omega) j hj
      refine ⟨h1, fun k hk => ?_⟩
      rw [h2 k hk]
      by_cases e3 : 4 * j + k < i
      · rw [if_pos e3, if_pos (by omega)]
      · rw [if_neg e3, if_neg (by omega)]
theorem kC_spec {x : Nat → List Int} {n : Nat} {t : List Int} (hl : (x (n + 4)).length = 4) : ∀ k, k ≤ 4 →
    (∀ j, j ≠ n + 4 → kC x n t k j = x j) ∧ (kC x n t k (n + 4)).length = 4 ∧ ∀ i, nthI (kC x n t k (n + 4)) i = if i < k then bxor .u8 (nthI (x n) i) (nthI t i) else nthI (x (n + 4)) i := by
  intro k
  induction k with
  | zero => exact fun _ => ⟨fun _ _ => rfl, hl, fun _ => rfl⟩
  | succ k ih =>
    intro hk
    obtain ⟨h1, h2, h3⟩ := ih (by omega)
    refine ⟨fun j hj => ?_, ?_, fun i => ?_⟩
    · show updK (kC x n t k) (n + 4) _ j = x j
      unfold updK
      rw [if_neg hj]
      exact h1 j hj
    · show (updK (kC x n t k) (n + 4) _ (n + 4)).length = 4
      unfold updK
      rw [if_pos rfl]
      exact setI_len.trans h2
    · show nthI (updK (kC x n t k) (n + 4) _ (n + 4)) i = _
      unfold updK
      rw [if_pos rfl, nthI_setJ (by omega), h1 n (by omega), h3 i]
      by_cases e : i = k
      · subst e
        rw [if_pos rfl, if_pos (by omega)]
      · rw [if_neg e]
        by_cases e2 : i < k
        · rw [if_pos e2, if_pos (by omega)]
        · rw [if_neg e2, if_neg (by omega)]
theorem wI_spec {w t : List Int} {n : Nat} (hw : w.length = 4 * n + 16) : ∀ k, k ≤ 4 → wI w t n k = w ++ (List.range k).map fun i => bxor .u8 (nthI w (4 * n + i)) (nthI t i) := by
  intro k
  induction k with
  | zero => exact fun _ => (List.append_nil w).symm
  | succ k ih =>
    intro hk
    have e := ih (by omega)
    have hl : (wI w t n k).length = wLn n k := by rw [e]; simp [wLn, hw]
    rw [wI, subL_all (Nat.le_of_eq hl)]
    show (wI w t n k ++ subL [_] 0 1) = _
    rw [subL_one, List.range_succ, List.map_append, ← List.append_assoc, ← e]
    congr 2
    simp only
    rw [e, nthI_app_lt (by omega)]
theorem rR_kR : ∀ n, rR n = kR n ∧ isB (kR n) := by
  intro n
  induction n with
  | zero => exact ⟨rfl, by decide, by decide⟩
  | succ n ih =>
    unfold rR kR
    rw [ih.1]
    by_cases e : (n + 4) % 4 = 0
    · rw [if_pos (by omega), if_pos e, (times_two ih.2).2.1]
      exact ⟨rfl, isB_twI ih.2⟩
    · rw [if_neg (by omega), if_neg e]
      exact ⟨rfl, ih.2⟩
theorem keys_same {key : List Int} (hk : key.length = 16) : ∀ n, n ≤ 40 → (wN key boxL n).length = 4 * n + 16 ∧ (∀ j, j < 44 → (kB key n j).length = 4) ∧
    ∀ j i, j < n + 4 → i < 4 → nthI (kB key n j) i = nthI (wN key boxL n) (4 * j + i) := by
  intro n
  induction n with
  | zero =>
    refine fun _ => ⟨?_, fun j hj => (kA_spec 16 (Nat.le_refl _) j hj).1, fun j i hj hi => ?_⟩
    · show (subL key 0 16).length = _
      rw [subL_len (by omega)]
    · show nthI (kA key 16 j) i = nthI (subL key 0 16) (4 * j + i)
      rw [(kA_spec 16 (Nat.le_refl _) j (by omega)).2 i hi, if_pos (by omega), subL_all (by omega)]
  | succ n ih =>
    intro hn
    obtain ⟨h1, h2, h3⟩ := ih (by omega)
    have ht : kT (kB key n) n = rT boxL (wN key boxL n) n := by
      unfold kT rT
      have e3 : ∀ i, i < 4 → nthI (kB key n (n + 3)) i = nthI (wN key boxL n) (4 * n + (12 + i)) := fun i hi => by rw [h3 _ _ (by omega) hi]; congr 1; omega
      by_cases e : (n + 4) % 4 = 0
      · rw [if_pos e, if_pos (by omega)]
        unfold rTb boxA
        rw [(rR_kR n).1, e3 0 (by omega), e3 1 (by omega), e3 2 (by omega), e3 3 (by omega)]
        rfl
      · rw [if_neg e, if_neg (by omega)]
        refine list_ext (n := 4) (h2 _ (by omega)) rfl fun i hi => ?_
        rw [e3 i hi]
        have hm : i = 0 ∨ i = 1 ∨ i = 2 ∨ i = 3 := by omega
        rcases hm with rfl | rfl | rfl | rfl <;> rfl
    have hc := kC_spec (x := kB key n) (n := n) (t := kT (kB key n) n) (h2 _ (by omega)) 4 (Nat.le_refl _)
    have hw := wI_spec (t := rT boxL (wN key boxL n) n) h1 4 (Nat.le_refl _)
    have ew : wN key boxL (n + 1) = wI (wN key boxL n) (rT boxL (wN key boxL n) n) n 4 := rfl
    have ek : kB key (n + 1) = kC (kB key n) n (kT (kB key n) n) 4 := rfl
    refine ⟨by rw [ew, hw]; simp [h1]; omega, fun j hj => ?_, fun j i hj hi => ?_⟩
    · rw [ek]
      by_cases e : j = n + 4
      · rw [e]; exact hc.2.1
      · rw [hc.1 j e]; exact h2 j hj
    · rw [ek, ew, hw]
      by_cases e : j = n + 4
      · subst e
        rw [hc.2.2 i, if_pos hi, ht, nthI_cat, if_neg (by omega), nthI_map (by omega), h3 n i (by omega) hi]
        have e2 : 4 * (n + 4) + i - (wN key boxL n).length = i := by omega
        rw [e2]
      · rw [hc.1 j e, h3 j i (by omega) hi, nthI_cat, if_pos (by omega)]
theorem chkBB : (boxL.all fun x => decide (0 ≤ x ∧ x ≤ 255)) = true := by kernel_rfl
theorem box_bytes : bytesL boxL := fun i => by
  unfold nthI
  rw [List.getD_eq_getElem?_getD]
  cases e : boxL[i]? with
  | none => exact ⟨by decide, by decide⟩
  | some y =>
    have h : 0 ≤ y ∧ y ≤ 255 := of_decide_eq_true (List.all_eq_true.1 chkBB y (List.mem_of_getElem? e))
    exact h
/-- the two ways of a block -/
theorem blk_same {key b : List Int} (hk : key.length = 16) (hb : b.length = 16) : blkL boxL (kB key 40) b = cryL (wN key boxL 40) boxL b ∧ (cryL (wN key boxL 40) boxL b).length = 16 :=
  blk_cry (fun j i hj hi => (keys_same hk 40 (Nat.le_refl _)).2.2 j i (by omega) hi) box_bytes hb 10 (Nat.le_refl _)
end Go.Cx.Rb
/- CxbEB -/
namespace Go.Cx.Rb
open Go Go.Cx Go.Proofs
theorem cmF_gt : cmF .gtr = gtI := rfl
def inEp (x : Int) : Prop := 0 ≤ x ∧ x ≤ 281474976710655
def shB (x : Int) (i : Nat) : Int := wcv .u8 (bshr .u64 x (40 - 8 * (i : Int)))
/-- the first i bytes of both numbers laid -/
def inS (ep sq : Int) : Nat → List Int
  | 0 => zerosI 16
  | i + 1 => setI (setI (inS ep sq i) i (shB ep i)) (6 + i) (shB sq i)
def set4 (q : List Int) (n : Int) : List Int := setI (setI (setI (setI q 12 (wcv .u8 (bshr .i64 n 24))) 13 (wcv .u8 (bshr .i64 n 16))) 14 (wcv .u8 (bshr .i64 n 8))) 15 (wcv .u8 n)
def iq (ep sq : Int) (n : Nat) : List Int := set4 (inS ep sq 6) (n : Int)
def inQ (ep sq : Int) : Nat → List Int
  | 0 => inS ep sq 6
  | i + 1 => iq ep sq (i / 16)
def blkC (key b : List Int) : List Int := blkL (boxU 0) (kB key 40) b
def stQ (key : List Int) (ep sq : Int) : Nat → List Int
  | 0 => zerosI 16
  | i + 1 => blkC key (iq ep sq (i / 16))
def xoF (key : List Int) (ep sq : Int) (l : List Int) (j : Nat) : Int := bxor .u8 (nthI l j) (nthI (blkC key (iq ep sq (j / 16))) (j % 16))
def oQ (key : List Int) (ep sq : Int) (l : List Int) (i : Nat) : List Int := (List.range i).map (xoF key ep sq l) ++ List.replicate (440 - i) 0
/-- 440 bytes crossed -/
def crossL (key : List Int) (ep sq : Int) (l : List Int) : List Int := (List.range 440).map (xoF key ep sq l)
theorem inS_len {ep sq : Int} : ∀ i, i ≤ 6 → (inS ep sq i).length = 16 := by
  intro i
  induction i with
  | zero => exact fun _ => zeros_len
  | succ i ih => exact fun h => by rw [inS, setI_len, setI_len, ih (by omega)]
theorem set4_len {q : List Int} {n : Int} : (set4 q n).length = q.length := by simp only [set4, setI_len]
theorem set4_at {q : List Int} (h : q.length = 16) {n : Int} {j : Nat} (_hj : j < 16) : nthI (set4 q n) j =
    if j = 15 then wcv .u8 n else if j = 14 then wcv .u8 (bshr .i64 n 8) else if j = 13 then wcv .u8 (bshr .i64 n 16) else if j = 12 then wcv .u8 (bshr .i64 n 24) else nthI q j := by
  unfold set4
  rw [nthI_setJ (by simp only [setI_len]; omega), nthI_setJ (by simp only [setI_len]; omega), nthI_setJ (by simp only [setI_len]; omega), nthI_setJ (by omega)]
theorem set4_set4 {q : List Int} (h : q.length = 16) {m n : Int} : set4 (set4 q m) n = set4 q n := by
  refine list_ext (n := 16) (by rw [set4_len, set4_len, h]) (by rw [set4_len, h]) fun j hj => ?_
  rw [set4_at (by rw [set4_len, h]) hj, set4_at h hj, set4_at h hj]
  split
  · rfl
  · split
    · rfl
    · split
      · rfl
      · split <;> rfl
theorem inQ_next {ep sq : Int} {i : Nat} (_h : i % 16 = 0) : inQ ep sq i.succ = set4 (inQ ep sq i) ((i / 16 : Nat) : Int) := by
  show iq ep sq (i / 16) = _
  cases i with
  | zero => rfl
  | succ i =>
    show set4 _ _ = set4 (set4 _ _) _
    rw [set4_set4 (inS_len 6 (Nat.le_refl _))]
theorem inQ_same {ep sq : Int} {i : Nat} (h : i % 16 ≠ 0) : inQ ep sq i.succ = inQ ep sq i := by
  cases i with
  | zero => exact absurd rfl h
  | succ i =>
    show iq ep sq ((i + 1) / 16) = iq ep sq (i / 16)
    rw [show (i + 1) / 16 = i / 16 by omega]
theorem stQ_next {key : List Int} {ep sq : Int} {i : Nat} (h : i % 16 = 0) : stQ key ep sq i.succ = blkC key (set4 (inQ ep sq i) ((i / 16 : Nat) : Int)) := by
  rw [← inQ_next h]; rfl
theorem stQ_same {key : List Int} {ep sq : Int} {i : Nat} (h : i % 16 ≠ 0) : stQ key ep sq i.succ = stQ key ep sq i := by
  cases i with
  | zero => exact absurd rfl h
  | succ i =>
    show blkC key (iq ep sq ((i + 1) / 16)) = blkC key (iq ep sq (i / 16))
    rw [show (i + 1) / 16 = i / 16 by omega]
theorem oQ_next {key : List Int} {ep sq : Int} {l : List Int} {i : Nat} (hi : i < 440) : oQ key ep sq l i.succ = setI (oQ key ep sq l i) i (bxor .u8 (nthI l i) (nthI (stQ key ep sq i.succ) (i % 16))) :=
  (fillL_set (f := xoF key ep sq l) hi rfl).symm
theorem oQ_0 {key : List Int} {ep sq : Int} {l : List Int} : oQ key ep sq l 0 = zerosI 440 := rfl
theorem oQ_end {key : List Int} {ep sq : Int} {l : List Int} : crossL key ep sq l = oQ key ep sq l 440 := by
  rw [oQ, Nat.sub_self, List.replicate_zero, List.append_nil]; rfl
theorem sh_i {i : Nat} (h : i ≤ 6) : wsub .i64 40 (wmul .i64 8 (i : Int)) = 40 - 8 * (i : Int) := by
  rw [wmul_i64 (by omega), wsub_i64 (by omega)]
theorem six_i {i : Nat} (h : i ≤ 6) : wadd .i64 6 (i : Int) = ((6 + i : Nat) : Int) := by
  rw [wadd_i64 (by omega)]; omega
theorem q16 {i : Nat} (h : i ≤ 440) : wquo .i64 (i : Int) 16 = ((i / 16 : Nat) : Int) := quo_i64 (k := 16) (by omega)
theorem r16 {i : Nat} : wrem .i64 (i : Int) 16 = ((i % 16 : Nat) : Int) := rfl
theorem unkws_k {x : Nat → List Int} : (unkws fun j => V.ints .u8 4 (x j)) = x := rfl
section
variable {key l : List Int} {ep sq : Int} {i j : Nat}
theorem inS_0 : inS ep sq 0 = zerosI 16 := rfl
theorem inS_s : inS ep sq i.succ = setI (setI (inS ep sq i) i (wcv .u8 (bshr .u64 ep (40 - 8 * (i : Int))))) (6 + i) (wcv .u8 (bshr .u64 sq (40 - 8 * (i : Int)))) := rfl
theorem inQ_0 : inQ ep sq 0 = inS ep sq 6 := rfl
theorem stQ_0 : stQ key ep sq 0 = zerosI 16 := rfl
theorem inQ_n (h : j % 16 = 0) : inQ ep sq j.succ = setI (setI (setI (setI (inQ ep sq j) 12 (wcv .u8 (bshr .i64 ((j / 16 : Nat) : Int) 24))) 13 (wcv .u8 (bshr .i64 ((j / 16 : Nat) : Int) 16))) 14 (wcv .u8 (bshr .i64 ((j / 16 : Nat) : Int) 8))) 15 (wcv .u8 ((j / 16 : Nat) : Int)) := inQ_next h
theorem stQ_n (h : j % 16 = 0) : stQ key ep sq j.succ = blkL (boxU 0) (kB key 40) (setI (setI (setI (setI (inQ ep sq j) 12 (wcv .u8 (bshr .i64 ((j / 16 : Nat) : Int) 24))) 13 (wcv .u8 (bshr .i64 ((j / 16 : Nat) : Int) 16))) 14 (wcv .u8 (bshr .i64 ((j / 16 : Nat) : Int) 8))) 15 (wcv .u8 ((j / 16 : Nat) : Int))) := stQ_next h
theorem oQ_n (h : j % 16 = 0) (hj : j < 440) : oQ key ep sq l j.succ = setI (oQ key ep sq l j) j (bxor .u8 (nthI l j) (nthI (blkL (boxU 0) (kB key 40) (setI (setI (setI (setI (inQ ep sq j) 12 (wcv .u8 (bshr .i64 ((j / 16 : Nat) : Int) 24))) 13 (wcv .u8 (bshr .i64 ((j / 16 : Nat) : Int) 16))) 14 (wcv .u8 (bshr .i64 ((j / 16 : Nat) : Int) 8))) 15 (wcv .u8 ((j / 16 : Nat) : Int)))) (j % 16))) := by
  rw [oQ_next hj, stQ_n h]
theorem oQ_s (h : j % 16 ≠ 0) (hj : j < 440) : oQ key ep sq l j.succ = setI (oQ key ep sq l j) j (bxor .u8 (nthI l j) (nthI (stQ key ep sq j) (j % 16))) := by
  rw [oQ_next hj, stQ_same h]
end
def cCross (ap : AP) : Ctr
  | [.v (.ints .u8 16 key), .v (.int .u64 ep), .v (.int .u64 sq), .b n 1 (.ints .u8 m l)] => .chk (ap _ _ (ap _ _ eqN n) 440) <| .chk (ap _ _ (ap _ _ eqN m) 440) <| .chk (ap _ _ inEp ep) <| .chk (ap _ _ inEp sq) <|
      .ok ⟨.tcons (.sl 0 [] 0 440 1 none) (.tcons (.int .i64 0) .tnil), [], [.ints .u8 440 (ap _ _ (ap _ _ (ap _ _ (ap _ _ crossL key) ep) sq) l)]⟩
  | _ => .fail 446
def aCross (ap : AP) (key : List Int) (ep sq : Int) (l : List Int) : List (Nat × Ann) := [
  (0, .inv Nat (fun i => ⟨[(1, .int .u64 ep), (2, .int .u64 sq), (3, .sl (parH 3) [] 0 440 1 none), (10, .ptr 24 []), (11, .sl 27 [] 0 440 1 (some 440)), (12, .ptr 12 []), (13, .ptr 13 []), (28, .int .i64 (ap _ _ lenI i))],
    [(parH 3, ⟨.bor, .ints .u8 440 l⟩), (24, ⟨.own, .cat 256 176 (.ints .u8 256 (ap _ _ boxU 0)) (.rows 4 44 fun j => .ints .u8 4 (ap _ _ (ap _ _ (ap _ _ kB key) 40) j))⟩), (27, ⟨.own, .ints .u8 440 (ap _ _ zerosI 440)⟩), (12, ⟨.own, .ints .u8 16 (ap _ _ (ap _ _ (ap _ _ inS ep) sq) i)⟩), (13, ⟨.own, .ints .u8 16 (ap _ _ zerosI 16)⟩)], []⟩) (fun i => i ≤ 6) (fun i => 6 - i)),
  (1, .inv Nat (fun l' => ⟨[(3, .sl (parH 3) [] 0 440 1 none), (10, .ptr 24 []), (11, .sl 27 [] 0 440 1 (some 440)), (12, .ptr 12 []), (13, .ptr 13 []), (50, .int .i64 (ap _ _ lenI 440)), (51, .int .i64 (ap _ _ lenI l'))],
    [(parH 3, ⟨.bor, .ints .u8 440 l⟩), (24, ⟨.own, .cat 256 176 (.ints .u8 256 (ap _ _ boxU 0)) (.rows 4 44 fun j => .ints .u8 4 (ap _ _ (ap _ _ (ap _ _ kB key) 40) j))⟩), (27, ⟨.own, .ints .u8 440 (ap _ _ (ap _ _ (ap _ _ (ap _ _ (ap _ _ oQ key) ep) sq) l) l')⟩), (12, ⟨.own, .ints .u8 16 (ap _ _ (ap _ _ (ap _ _ inQ ep) sq) l')⟩), (13, ⟨.own, .ints .u8 16 (ap _ _ (ap _ _ (ap _ _ (ap _ _ stQ key) ep) sq) l')⟩)], []⟩) (fun l' => l' ≤ 440) (fun l' => 440 - l'))]
set_option maxRecDepth 20000 in
set_option maxHeartbeats 2000000 in
theorem vc131 (args : List Arg) (out : Out) (h : (cCross apf args).to out) (hok : okAs args) :
    args.length = ic131.nargs ∧ ic131.nargs ≤ ic131.ntmps ∧ ∃ A, run apf [(147, cMade apf), (148, cBlk apf)] A ic131.body (fnQ apf args out ic131.res) (st0 G1 true args) := by
  unfold cCross at h
  split at h
  · rename_i key ep sq n m l
    obtain ⟨hn, hm, hep, hsq, h⟩ := h
    cases h
    cases (show n = 440 from hn)
    cases (show m = 440 from hm)
    have hep : 0 ≤ ep ∧ ep ≤ 281474976710655 := hep
    have hsq : 0 ≤ sq ∧ sq ≤ 281474976710655 := hsq
    clear hn hm
    refine ⟨rfl, by decide, aCross apf key ep sq l, ?_⟩
    show run apf _ _ _ _ (st0 [(1, .ints .u32 64 kk)] _ _)
    generalize hK : kk = K
    generalize hap : apf = ap
    cbv
    repeat' first
      | exact True.intro
      | (intro (hh : _ = true); first | with_reducible exact False.elim (tf_no (Eq.trans (Eq.symm (show _ = true by assumption)) hh)) | cbv)
      | (intro (hh : _ = false); first | with_reducible exact False.elim (tf_no (Eq.trans (Eq.symm hh) (show _ = false by assumption))) | cbv)
      | with_reducible refine And.intro ?_ ?_
      | (refine ⟨0, Nat.zero_le _, ?_⟩; cbv)
    all_goals first
      | (intro (i : Nat) hi hts hhs
         have hi : i ≤ 6 := hi
         all_goals try cbv
         repeat' first
           | exact True.intro
           | (intro (hh : _ = true); first | with_reducible exact False.elim (tf_no (Eq.trans (Eq.symm (show _ = true by assumption)) hh)) | cbv)
           | (intro (hh : _ = false); first | with_reducible exact False.elim (tf_no (Eq.trans (Eq.symm hh) (show _ = false by assumption))) | cbv)
           | with_reducible refine And.intro ?_ ?_
           | (refine ⟨i + 1, ?_, (?_ : _ < _), ?_⟩; rotate_left 2; try cbv)
           | (refine ⟨0, Nat.zero_le _, ?_⟩; cbv))
      | skip
    all_goals first
      | (intro (j : Nat) hi hts hhs
         have hj : j ≤ 440 := hi
         all_goals try cbv
         repeat' first
           | exact True.intro
           | (intro (hh : _ = true); first | with_reducible exact False.elim (tf_no (Eq.trans (Eq.symm (show _ = true by assumption)) hh)) | cbv)
           | (intro (hh : _ = false); first | with_reducible exact False.elim (tf_no (Eq.trans (Eq.symm hh) (show _ = false by assumption))) | cbv)
           | with_reducible refine And.intro ?_ ?_
           | (refine ⟨j + 1, ?_, (?_ : Nat.sub 440 (j + 1) < Nat.sub 440 j), ?_⟩; rotate_left 2; try cbv)
           | (refine ⟨0, Nat.zero_le _, ?_⟩; cbv))
      | skip
    all_goals subst hap
    all_goals try simp only [apf_e, arF_sub, arF_add, arF_mul, arF_quo, arF_rem8, arF_shr, arF_xor, cmF_e, cmF_l, cmF_gt, lt_t, lt_f, gt_t, gt_f, eq_t, eq_f, eqN, eqI', eqL', ltN, natI, lenI] at *
    all_goals try simp only [addN0, unkws_k] at *
    all_goals try simp only [sh_i hi, six_i hi]
    all_goals try simp only [q16 hj, r16, Int.toNat_natCast]
    all_goals try simp only [Int.toNat_natCast]
    all_goals first
      | omega
      | (show 6 - (i + 1) < 6 - i; omega)
      | (show 440 - (j + 1) < 440 - j; omega)
      | (with_reducible first | exact (inc_i64 (i := i) (by omega)).symm | exact (inc_i64 (i := j) (by omega)).symm | exact hep | exact hsq | exact oQ_0 | exact inS_s | exact stQ_0 | exact inQ_0 | exact inS_0)
      | (with_reducible show mksN _ _
         unfold mksN; omega)
      | (with_reducible show eqRows _ _ _
         exact fun _ _ => rfl)
      | (with_reducible show isKw _
         exact ⟨kB key 40, rfl⟩)
      | (have h4 : i = 6 := by omega
         subst h4
         with_reducible exact inQ_0)
      | (have h4 : j = 440 := by omega
         subst h4
         with_reducible exact oQ_end)
      | (have hg : wrem .i64 (j : Int) 16 = 0 := by assumption
         rw [r16] at hg
         have hg : j % 16 = 0 := by omega
         with_reducible first | exact inQ_n hg | exact stQ_n hg | exact oQ_n hg (by omega))
      | (have hg : wrem .i64 (j : Int) 16 ≠ 0 := by assumption
         rw [r16] at hg
         have hg : j % 16 ≠ 0 := by omega
         with_reducible first | exact inQ_same hg | exact stQ_same hg | exact oQ_s hg (by omega))
      | skip
  · exact h.elim
set_option maxHeartbeats 2000000 in
theorem s131 : Sound Tryd.prog G1 131 (pu 131) (cCross apf) := fn_sound rfl Tryd.call131 ok131 co131 (env_cons s147 (env_cons s148 env_nil)) vc131
end Go.Cx.Rb
/- CxbEC -/
namespace Go.Cx.Rb
open Go Go.Cx Go.Proofs
def shN (n : Nat) (i : Nat) : Int := wcv .u8 (bshr .u64 (n : Int) (24 - 8 * (i : Int)))
def jS (q : List Int) (n : Nat) : Nat → List Int
  | 0 => q
  | i + 1 => setI (jS q n i) (12 + i) (shN n i)
def jq (ep sq : Int) (n i : Nat) : List Int := jS (inS ep sq 6) n i
def cryC (key bx : List Int) (ep sq : Int) (n : Nat) : List Int := cryL (wN key bx 40) bx (jq ep sq n 4)
def ovF (key bx : List Int) (ep sq : Int) (l : List Int) (j : Nat) : Int := bxor .u8 (nthI l j) (nthI (cryC key bx ep sq (j / 16)) (j % 16))
def ovP (key bx : List Int) (ep sq : Int) (l : List Int) (n : Nat) : List Int := (List.range n).map (ovF key bx ep sq l)
def at16 (k : Nat) : Int := ((16 * k : Nat) : Int)
def oLn (k m : Nat) : Nat := min (16 * k + m) 440
def ovK (key bx : List Int) (ep sq : Int) (l : List Int) (k m : Nat) : List Int := ovP key bx ep sq l (oLn k m)
theorem at16_v (k : Nat) : at16 k = 16 * (k : Int) := by unfold at16; omega
theorem at16_q {k : Nat} (h : k ≤ 28) : wcv .u64 (wquo .i64 (at16 k) 16) = (k : Int) := by
  have e : wquo .i64 (at16 k) 16 = ((16 * k / 16 : Nat) : Int) := quo_i64 (k := 16) (by omega)
  rw [e, show 16 * k / 16 = k by omega, wcv_u64 (by omega)]
theorem at16_a {k i : Nat} (h : k ≤ 28) (hi : i ≤ 16) : wadd .i64 (at16 k) (i : Int) = ((16 * k + i : Nat) : Int) := by
  rw [wadd_i64 (by unfold at16; omega)]; unfold at16; omega
theorem at16_n {k : Nat} (h : k ≤ 28) : wadd .i64 (at16 k) 16 = at16 (k + 1) := by
  rw [wadd_i64 (by unfold at16; omega)]; unfold at16; omega
theorem shu_i {i : Nat} (h : i < 6) : wcv .u64 (wsub .i64 40 (wmul .i64 8 (i : Int))) = 40 - 8 * (i : Int) := by
  rw [sh_i (by omega), wcv_u64 (by omega)]
theorem shv_i {i : Nat} (h : i < 4) : wcv .u64 (wsub .i64 24 (wmul .i64 8 (i : Int))) = 24 - 8 * (i : Int) := by
  rw [wmul_i64 (by omega), wsub_i64 (by omega), wcv_u64 (by omega)]
theorem tw_i {i : Nat} (h : i ≤ 4) : wadd .i64 12 (i : Int) = ((12 + i : Nat) : Int) := by
  rw [wadd_i64 (by omega)]; omega
theorem sub_w {key bx : List Int} (h : (wN key bx 40).length = 176) : subL (wN key bx 40) 0 (wLn 40 0) = wN key bx 40 := subL_all (by rw [h]; decide)
theorem sub_b {bx : List Int} (h : bx.length = 256) : subL bx 0 256 = bx := subL_all (Nat.le_of_eq h)
theorem wN_len {key bx : List Int} (hk : key.length = 16) : ∀ n, n ≤ 40 → (wN key bx n).length = 4 * n + 16 := by
  intro n
  induction n with
  | zero => exact fun _ => by show (subL key 0 16).length = _; rw [subL_len (by omega)]
  | succ n ih =>
    intro hn
    show (wI (wN key bx n) (rT bx (wN key bx n) n) n 4).length = _
    rw [wI_spec (ih (by omega)) 4 (Nat.le_refl _)]
    simp [ih (by omega)]
    omega
theorem wLn_e : wLn 40 0 = 176 := rfl
theorem at16_z : at16 0 = 0 := rfl
theorem at16_m : at16 (0 + 1) = wadd .i64 (at16 0) 16 := rfl
section
variable {key bx l : List Int} {ep sq : Int} {k m e n a b c d : Nat}
theorem jq_0 : jq ep sq n 0 = inS ep sq 6 := rfl
theorem jq_s : jq ep sq n e.succ = setI (jq ep sq n e) (12 + e) (wcv .u8 (bshr .u64 (n : Int) (24 - 8 * (e : Int)))) := rfl
theorem cryC_d : cryC key bx ep sq n = cryL (wN key bx 40) bx (jq ep sq n 4) := rfl
theorem ovK_len (h : oLn a b = oLn c d) : ovK key bx ep sq l a b = ovK key bx ep sq l c d := by unfold ovK; rw [h]
theorem ovP_len (h : 440 = oLn a b) : ovP key bx ep sq l 440 = ovK key bx ep sq l a b := by unfold ovK; rw [← h]
theorem ov_s (h : 16 * k + m < 440 ∧ m < 16) : ovK key bx ep sq l k (m + 1) = catL (subL (ovK key bx ep sq l k m) 0 (oLn k m)) (subL [bxor .u8 (nthI l (16 * k + m)) (nthI (cryC key bx ep sq k) m)] 0 1) := by
  have e1 : oLn k (m + 1) = 16 * k + m + 1 := by unfold oLn; omega
  have e2 : oLn k m = 16 * k + m := by unfold oLn; omega
  unfold ovK ovP
  rw [e1, e2, subL_one, subL_all (by simp), List.range_succ, List.map_append]
  show _ = _ ++ _
  simp only [List.map_cons, List.map_nil, ovF]
  rw [show (16 * k + m) / 16 = k by omega, show (16 * k + m) % 16 = m by omega]
theorem ov_1 : ovK key bx ep sq l 0 (0 + 1) = subL [bxor .u8 (nthI l (16 * 0 + 0)) (nthI (cryC key bx ep sq 0) 0)] 0 1 := by
  rw [ov_s ⟨by omega, by omega⟩]
  rfl
end
def cOver (ap : AP) : Ctr
  | [.b n' 1 (.ints .u8 m' bx), .v (.ints .u8 16 key), .v (.int .u64 ep), .v (.int .u64 sq), .b n 1 (.ints .u8 m l)] => .chk (ap _ _ (ap _ _ eqN n') 256) <| .chk (ap _ _ (ap _ _ eqN m') 256) <| .chk (ap _ _ (ap _ _ eqN n) 440) <| .chk (ap _ _ (ap _ _ eqN m) 440) <|
      .ok ⟨.sl 0 [] 0 440 1 none, [], [.ints .u8 440 (ap _ _ (ap _ _ (ap _ _ (ap _ _ (ap _ _ (ap _ _ ovP key) bx) ep) sq) l) 440)]⟩
  | _ => .fail 447
def aOver (ap : AP) (key bx : List Int) (ep sq : Int) (l : List Int) : List (Nat × Ann) := [
  (0, .nest Nat (fun k => (match k with
        | 0 => ⟨[(0, .sl (parH 0) [] 0 256 1 none), (2, .int .u64 ep), (3, .int .u64 sq), (4, .sl (parH 4) [] 0 440 1 none), (11, .sl 22 [] 0 (ap _ _ (ap _ _ wLn 40) 0) 1 none), (13, .int .i64 (ap _ _ at16 0)), (12, .nsl)], [(parH 0, ⟨.bor, .ints .u8 256 bx⟩), (parH 4, ⟨.bor, .ints .u8 440 l⟩), (22, ⟨.own, .ints .u8 (ap _ _ (ap _ _ wLn 40) 0) (ap _ _ (ap _ _ (ap _ _ wN key) bx) 40)⟩)], []⟩
        | k' + 1 => (fun k => ⟨[(0, .sl (parH 0) [] 0 256 1 none), (2, .int .u64 ep), (3, .int .u64 sq), (4, .sl (parH 4) [] 0 440 1 none), (11, .sl 22 [] 0 (ap _ _ (ap _ _ wLn 40) 0) 1 none), (13, .int .i64 (ap _ _ at16 k)), (12, .sl 7000 [] 0 (ap _ _ (ap _ _ oLn k) 0) 1 none)], [(parH 0, ⟨.bor, .ints .u8 256 bx⟩), (parH 4, ⟨.bor, .ints .u8 440 l⟩), (22, ⟨.own, .ints .u8 (ap _ _ (ap _ _ wLn 40) 0) (ap _ _ (ap _ _ (ap _ _ wN key) bx) 40)⟩), (7000, ⟨.own, .ints .u8 (ap _ _ (ap _ _ oLn k) 0) (ap _ _ (ap _ _ (ap _ _ (ap _ _ (ap _ _ (ap _ _ (ap _ _ ovK key) bx) ep) sq) l) k) 0)⟩)], []⟩) (k' + 1))) (fun k => k ≤ 28) (fun k => 28 - k)
    (fun k => [
      (1, .inv Nat (fun i => (match k with
        | 0 => ⟨[(0, .sl (parH 0) [] 0 256 1 none), (2, .int .u64 ep), (3, .int .u64 sq), (4, .sl (parH 4) [] 0 440 1 none), (11, .sl 22 [] 0 (ap _ _ (ap _ _ wLn 40) 0) 1 none), (13, .int .i64 (ap _ _ at16 0)), (12, .nsl), (14, .ptr 14 []), (15, .int .u64 (ap _ _ lenI 0)), (16, .int .i64 (ap _ _ lenI i))], [(parH 0, ⟨.bor, .ints .u8 256 bx⟩), (parH 4, ⟨.bor, .ints .u8 440 l⟩), (22, ⟨.own, .ints .u8 (ap _ _ (ap _ _ wLn 40) 0) (ap _ _ (ap _ _ (ap _ _ wN key) bx) 40)⟩), (14, ⟨.own, .ints .u8 16 (ap _ _ (ap _ _ (ap _ _ inS ep) sq) i)⟩)], []⟩
        | k' + 1 => (fun k => ⟨[(0, .sl (parH 0) [] 0 256 1 none), (2, .int .u64 ep), (3, .int .u64 sq), (4, .sl (parH 4) [] 0 440 1 none), (11, .sl 22 [] 0 (ap _ _ (ap _ _ wLn 40) 0) 1 none), (13, .int .i64 (ap _ _ at16 k)), (12, .sl 7000 [] 0 (ap _ _ (ap _ _ oLn k) 0) 1 none), (14, .ptr 14 []), (15, .int .u64 (ap _ _ lenI k)), (16, .int .i64 (ap _ _ lenI i))], [(parH 0, ⟨.bor, .ints .u8 256 bx⟩), (parH 4, ⟨.bor, .ints .u8 440 l⟩), (22, ⟨.own, .ints .u8 (ap _ _ (ap _ _ wLn 40) 0) (ap _ _ (ap _ _ (ap _ _ wN key) bx) 40)⟩), (7000, ⟨.own, .ints .u8 (ap _ _ (ap _ _ oLn k) 0) (ap _ _ (ap _ _ (ap _ _ (ap _ _ (ap _ _ (ap _ _ (ap _ _ ovK key) bx) ep) sq) l) k) 0)⟩), (14, ⟨.own, .ints .u8 16 (ap _ _ (ap _ _ (ap _ _ inS ep) sq) i)⟩)], []⟩) (k' + 1))) (fun i => i ≤ 6) (fun i => 6 - i)),
      (2, .inv Nat (fun e => (match k with
        | 0 => ⟨[(0, .sl (parH 0) [] 0 256 1 none), (2, .int .u64 ep), (3, .int .u64 sq), (4, .sl (parH 4) [] 0 440 1 none), (11, .sl 22 [] 0 (ap _ _ (ap _ _ wLn 40) 0) 1 none), (13, .int .i64 (ap _ _ at16 0)), (12, .nsl), (14, .ptr 14 []), (15, .int .u64 (ap _ _ lenI 0)), (17, .int .i64 (ap _ _ lenI e))], [(parH 0, ⟨.bor, .ints .u8 256 bx⟩), (parH 4, ⟨.bor, .ints .u8 440 l⟩), (22, ⟨.own, .ints .u8 (ap _ _ (ap _ _ wLn 40) 0) (ap _ _ (ap _ _ (ap _ _ wN key) bx) 40)⟩), (14, ⟨.own, .ints .u8 16 (ap _ _ (ap _ _ (ap _ _ (ap _ _ jq ep) sq) 0) e)⟩)], []⟩
        | k' + 1 => (fun k => ⟨[(0, .sl (parH 0) [] 0 256 1 none), (2, .int .u64 ep), (3, .int .u64 sq), (4, .sl (parH 4) [] 0 440 1 none), (11, .sl 22 [] 0 (ap _ _ (ap _ _ wLn 40) 0) 1 none), (13, .int .i64 (ap _ _ at16 k)), (12, .sl 7000 [] 0 (ap _ _ (ap _ _ oLn k) 0) 1 none), (14, .ptr 14 []), (15, .int .u64 (ap _ _ lenI k)), (17, .int .i64 (ap _ _ lenI e))], [(parH 0, ⟨.bor, .ints .u8 256 bx⟩), (parH 4, ⟨.bor, .ints .u8 440 l⟩), (22, ⟨.own, .ints .u8 (ap _ _ (ap _ _ wLn 40) 0) (ap _ _ (ap _ _ (ap _ _ wN key) bx) 40)⟩), (7000, ⟨.own, .ints .u8 (ap _ _ (ap _ _ oLn k) 0) (ap _ _ (ap _ _ (ap _ _ (ap _ _ (ap _ _ (ap _ _ (ap _ _ ovK key) bx) ep) sq) l) k) 0)⟩), (14, ⟨.own, .ints .u8 16 (ap _ _ (ap _ _ (ap _ _ (ap _ _ jq ep) sq) k) e)⟩)], []⟩) (k' + 1))) (fun e => e ≤ 4) (fun e => 4 - e)),
      (3, .inv Nat (fun m => match m with
        | 0 => (match k with
        | 0 => ⟨[(0, .sl (parH 0) [] 0 256 1 none), (2, .int .u64 ep), (3, .int .u64 sq), (4, .sl (parH 4) [] 0 440 1 none), (11, .sl 22 [] 0 (ap _ _ (ap _ _ wLn 40) 0) 1 none), (13, .int .i64 (ap _ _ at16 0)), (12, .nsl), (18, .ptr 18 []), (19, .int .i64 (ap _ _ lenI 0))], [(parH 0, ⟨.bor, .ints .u8 256 bx⟩), (parH 4, ⟨.bor, .ints .u8 440 l⟩), (22, ⟨.own, .ints .u8 (ap _ _ (ap _ _ wLn 40) 0) (ap _ _ (ap _ _ (ap _ _ wN key) bx) 40)⟩), (18, ⟨.own, .ints .u8 16 (ap _ _ (ap _ _ (ap _ _ (ap _ _ (ap _ _ cryC key) bx) ep) sq) 0)⟩)], []⟩
        | k' + 1 => (fun k => ⟨[(0, .sl (parH 0) [] 0 256 1 none), (2, .int .u64 ep), (3, .int .u64 sq), (4, .sl (parH 4) [] 0 440 1 none), (11, .sl 22 [] 0 (ap _ _ (ap _ _ wLn 40) 0) 1 none), (13, .int .i64 (ap _ _ at16 k)), (12, .sl 7000 [] 0 (ap _ _ (ap _ _ oLn k) 0) 1 none), (18, .ptr 18 []), (19, .int .i64 (ap _ _ lenI 0))], [(parH 0, ⟨.bor, .ints .u8 256 bx⟩), (parH 4, ⟨.bor, .ints .u8 440 l⟩), (22, ⟨.own, .ints .u8 (ap _ _ (ap _ _ wLn 40) 0) (ap _ _ (ap _ _ (ap _ _ wN key) bx) 40)⟩), (7000, ⟨.own, .ints .u8 (ap _ _ (ap _ _ oLn k) 0) (ap _ _ (ap _ _ (ap _ _ (ap _ _ (ap _ _ (ap _ _ (ap _ _ ovK key) bx) ep) sq) l) k) 0)⟩), (18, ⟨.own, .ints .u8 16 (ap _ _ (ap _ _ (ap _ _ (ap _ _ (ap _ _ cryC key) bx) ep) sq) k)⟩)], []⟩) (k' + 1))
        | m' + 1 => (fun m => ⟨[(0, .sl (parH 0) [] 0 256 1 none), (2, .int .u64 ep), (3, .int .u64 sq), (4, .sl (parH 4) [] 0 440 1 none), (11, .sl 22 [] 0 (ap _ _ (ap _ _ wLn 40) 0) 1 none), (13, .int .i64 (ap _ _ at16 k)), (12, .sl 7000 [] 0 (ap _ _ (ap _ _ oLn k) m) 1 none), (18, .ptr 18 []), (19, .int .i64 (ap _ _ lenI m))], [(parH 0, ⟨.bor, .ints .u8 256 bx⟩), (parH 4, ⟨.bor, .ints .u8 440 l⟩), (22, ⟨.own, .ints .u8 (ap _ _ (ap _ _ wLn 40) 0) (ap _ _ (ap _ _ (ap _ _ wN key) bx) 40)⟩), (7000, ⟨.own, .ints .u8 (ap _ _ (ap _ _ oLn k) m) (ap _ _ (ap _ _ (ap _ _ (ap _ _ (ap _ _ (ap _ _ (ap _ _ ovK key) bx) ep) sq) l) k) m)⟩), (18, ⟨.own, .ints .u8 16 (ap _ _ (ap _ _ (ap _ _ (ap _ _ (ap _ _ cryC key) bx) ep) sq) k)⟩)], [(7000, 97)]⟩) (m' + 1)) (fun m => m ≤ 16) (fun m => 16 - m))]))]
set_option maxRecDepth 20000 in
set_option maxHeartbeats 2000000 in
theorem vc149 (args : List Arg) (out : Out) (h : (cOver apf args).to out) (hok : okAs args) :
    args.length = ic149.nargs ∧ ic149.nargs ≤ ic149.ntmps ∧ ∃ A, run apf [(157, cKeys apf), (158, cCry apf)] A ic149.body (fnQ apf args out ic149.res) (st0 G1 true args) := by
  unfold cOver at h
  split at h
  · rename_i n' m' bx key ep sq n m l
    obtain ⟨hn', hm', hn, hm, h⟩ := h
    cases h
    cases (show n = 440 from hn)
    cases (show m = 440 from hm)
    cases (show n' = 256 from hn')
    cases (show m' = 256 from hm')
    clear hn hm hn' hm'
    have hbx : bx.length = 256 := hok.1.2.2.1
    have hkey : (wN key bx 40).length = 176 := wN_len hok.2.1.1 40 (Nat.le_refl _)
    refine ⟨rfl, by decide, aOver apf key bx ep sq l, ?_⟩
    show run apf _ _ _ _ (st0 [(1, .ints .u32 64 kk)] _ _)
    generalize hK : kk = K
    generalize hap : apf = ap
    cbv
    repeat' first
      | exact True.intro
      | (intro (hh : _ = true); first | with_reducible exact False.elim (tf_no (Eq.trans (Eq.symm (show _ = true by assumption)) hh)) | cbv)
      | (intro (hh : _ = false); first | with_reducible exact False.elim (tf_no (Eq.trans (Eq.symm hh) (show _ = false by assumption))) | cbv)
      | with_reducible refine And.intro ?_ ?_
      | (refine ⟨0, Nat.zero_le _, ?_⟩; cbv)
    all_goals first
      | (intro (k : Nat) hi hts hhs
         rcases k with _ | k
         all_goals try cbv
         repeat' first
           | exact True.intro
           | (intro (hh : _ = true); first | with_reducible exact False.elim (tf_no (Eq.trans (Eq.symm (show _ = true by assumption)) hh)) | cbv)
           | (intro (hh : _ = false); first | with_reducible exact False.elim (tf_no (Eq.trans (Eq.symm hh) (show _ = false by assumption))) | cbv)
           | with_reducible refine And.intro ?_ ?_
           | (refine ⟨1, ?_, (?_ : _ < _), ?_⟩; rotate_left 2; try cbv)
           | (refine ⟨0, Nat.zero_le _, ?_⟩; cbv))
      | skip
    all_goals first
      | (intro (i : Nat) hi hts hhs
         have hi : i ≤ 6 := hi
         all_goals try cbv
         repeat' first
           | exact True.intro
           | (intro (hh : _ = true); first | with_reducible exact False.elim (tf_no (Eq.trans (Eq.symm (show _ = true by assumption)) hh)) | cbv)
           | (intro (hh : _ = false); first | with_reducible exact False.elim (tf_no (Eq.trans (Eq.symm hh) (show _ = false by assumption))) | cbv)
           | with_reducible refine And.intro ?_ ?_
           | (refine ⟨i + 1, ?_, (?_ : Nat.sub 6 (i + 1) < Nat.sub 6 i), ?_⟩; rotate_left 2; try cbv)
           | (refine ⟨0, Nat.zero_le _, ?_⟩; cbv))
      | skip
    all_goals first
      | (intro (e : Nat) hi hts hhs
         have he : e ≤ 4 := hi
         all_goals try cbv
         repeat' first
           | exact True.intro
           | (intro (hh : _ = true); first | with_reducible exact False.elim (tf_no (Eq.trans (Eq.symm (show _ = true by assumption)) hh)) | cbv)
           | (intro (hh : _ = false); first | with_reducible exact False.elim (tf_no (Eq.trans (Eq.symm hh) (show _ = false by assumption))) | cbv)
           | with_reducible refine And.intro ?_ ?_
           | (refine ⟨e + 1, ?_, (?_ : Nat.sub 4 (e + 1) < Nat.sub 4 e), ?_⟩; rotate_left 2; try cbv)
           | (refine ⟨0, Nat.zero_le _, ?_⟩; cbv))
      | skip
    all_goals first
      | (intro (m : Nat) hi hts hhs
         rcases m with _ | m
         all_goals try cbv
         repeat' first
           | exact True.intro
           | (intro (hh : _ = true); first | with_reducible exact False.elim (tf_no (Eq.trans (Eq.symm (show _ = true by assumption)) hh)) | cbv)
           | (intro (hh : _ = false); first | with_reducible exact False.elim (tf_no (Eq.trans (Eq.symm hh) (show _ = false by assumption))) | cbv)
           | with_reducible refine And.intro ?_ ?_
           | (refine ⟨1, ?_, (?_ : Nat.sub 16 1 < Nat.sub 16 0), ?_⟩; rotate_left 2; try cbv)
           | (refine ⟨m + 2, ?_, (?_ : Nat.sub 16 (m + 2) < Nat.sub 16 (m + 1)), ?_⟩; rotate_left 2; try cbv)
           | (refine ⟨1, ?_, (?_ : Nat.sub 28 1 < Nat.sub 28 0), ?_⟩; rotate_left 2; try cbv)
           | (refine ⟨k + 2, ?_, (?_ : Nat.sub 28 (k + 2) < Nat.sub 28 (k + 1)), ?_⟩; rotate_left 2; try cbv)
           | (refine ⟨0, Nat.zero_le _, ?_⟩; cbv))
      | skip
    all_goals subst hap
    all_goals try simp only [apf_e, arF_sub, arF_add, arF_mul, arF_quo, arF_shr, arF_xor, cmF_l, lt_t, lt_f, eqN, eqI', eqL', ltN, natI, lenI] at *
    all_goals try simp only [addN0, Int.toNat_natCast] at *
    all_goals try simp only [sub_b hbx]
    all_goals try simp only [sub_w hkey]
    all_goals try simp only [at16_q (k := 0) (by omega)] at *
    all_goals try simp only [at16_q (k := k + 1) (by omega)] at *
    all_goals try simp only [shu_i (i := i) (by omega), six_i (i := i) (by omega)]
    all_goals try simp only [shv_i (i := e) (by omega), tw_i (i := e) (by omega)]
    all_goals try have hk : k + 1 ≤ 28 := by assumption
    all_goals try have hm : m + 1 ≤ 16 := by assumption
    all_goals try simp only [at16_a (k := 0) (i := 0) (by omega) (by omega)] at *
    all_goals try simp only [at16_a (k := 0) (i := m + 1) (by omega) hm] at *
    all_goals try simp only [at16_a (k := k + 1) (i := 0) hk (by omega)] at *
    all_goals try simp only [at16_a (k := k + 1) (i := m + 1) hk hm] at *
    all_goals try simp only [Int.toNat_natCast]
    all_goals have hA0 := at16_v 0
    all_goals try have hA := at16_v (k + 1)
    all_goals try have hA' : at16 k.succ = _ := at16_v (k + 1)
    all_goals first
      | omega
      | (simp only [oLn, leN, appN, addN, V.cnt]; omega)
      | (show 16 - 1 < 16 - 0; omega)
      | (show 28 - 1 < 28 - 0; omega)
      | (show 6 - (i + 1) < 6 - i; omega)
      | (show 4 - (e + 1) < 4 - e; omega)
      | (show 16 - (m + 2) < 16 - (m + 1); omega)
      | (show 28 - (k + 2) < 28 - (k + 1); omega)
      | (with_reducible first | exact (inc_i64 (i := i) (by omega)).symm | exact (inc_i64 (i := e) (by omega)).symm | exact inS_0 | exact inS_s | exact jq_s | exact cryC_d | exact (inc_i64 (i := 0) (by omega)).symm | exact (inc_i64 (i := m + 1) (by omega)).symm | exact at16_m | exact (at16_n (by omega)).symm | exact at16_z | exact wLn_e | exact ov_1)
      | (have h6 : i = 6 := by omega
         subst h6
         with_reducible exact jq_0)
      | (have h6 : e = 4 := by omega
         subst h6
         with_reducible exact cryC_d)
      | (with_reducible refine ovK_len ?_; simp only [oLn]; omega)
      | (with_reducible refine ovP_len ?_; simp only [oLn]; omega)
      | (with_reducible refine ov_s ?_; omega)
      | skip
  · exact h.elim
set_option maxHeartbeats 2000000 in
theorem s149 : Sound Tryd.prog G1 149 (pu 149) (cOver apf) := fn_sound rfl Tryd.call149 ok149 co149 (env_cons s157 (env_cons s158 env_nil)) vc149
end Go.Cx.Rb
/- CxbED -/
namespace Go.Cx.Rb
open Go Go.Cx Go.Proofs
theorem jq_len {ep sq : Int} {n : Nat} : ∀ i, i ≤ 4 → (jq ep sq n i).length = 16 := by
  intro i
  induction i with
  | zero => exact fun _ => inS_len 6 (Nat.le_refl _)
  | succ i ih => exact fun h => by rw [jq_s, setI_len]; exact ih (by omega)
theorem iq_jq {ep sq : Int} {n : Nat} : iq ep sq n = jq ep sq n 4 := by
  have h6 : (inS ep sq 6).length = 16 := inS_len 6 (Nat.le_refl _)
  refine list_ext (n := 16) (by rw [iq, set4_len, h6]) (jq_len 4 (Nat.le_refl _)) fun j hj => ?_
  show nthI (set4 (inS ep sq 6) (n : Int)) j = nthI (setI (setI (setI (setI (inS ep sq 6) 12 _) 13 _) 14 _) 15 _) j
  rw [set4_at h6 hj, nthI_setJ (by simp only [setI_len]; omega), nthI_setJ (by simp only [setI_len]; omega), nthI_setJ (by simp only [setI_len]; omega), nthI_setJ (by omega)]
  have e0 : bshr .u64 (n : Int) 0 = (n : Int) := by
    show (n : Int).fdiv (2 ^ 0) = n
    exact Int.fdiv_one _
  have s0 : shN n 3 = wcv .u8 (n : Int) := by
    show wcv .u8 (bshr .u64 (n : Int) 0) = _
    rw [e0]
  have s1 : shN n 2 = wcv .u8 (bshr .i64 (n : Int) 8) := rfl
  have s2 : shN n 1 = wcv .u8 (bshr .i64 (n : Int) 16) := rfl
  have s3 : shN n 0 = wcv .u8 (bshr .i64 (n : Int) 24) := rfl
  rw [s0, s1, s2, s3]
theorem cross_over {key l : List Int} {ep sq : Int} (hk : key.length = 16) : ovP key boxL ep sq l 440 = crossL key ep sq l := by
  unfold crossL ovP
  have e : ovF key boxL ep sq l = xoF key ep sq l := by
    funext j
    unfold ovF xoF cryC blkC boxU
    rw [← iq_jq, (blk_same hk (by rw [iq, set4_len, inS_len 6 (Nat.le_refl _)])).1]
  rw [e]
theorem cross_len {key l : List Int} {ep sq : Int} : (crossL key ep sq l).length = 440 := by simp [crossL]
/-- crossed twice is as it was -/
theorem cross_twice {key l : List Int} {ep sq : Int} (hl : l.length = 440) (hb : bytesL l) : crossL key ep sq (crossL key ep sq l) = l := by
  refine list_ext (n := 440) cross_len hl fun j hj => ?_
  unfold crossL
  rw [nthI_map hj]
  have e : xoF key ep sq ((List.range 440).map (xoF key ep sq l)) j = bxor .u8 (xoF key ep sq l j) (nthI (blkC key (iq ep sq (j / 16))) (j % 16)) := by
    unfold xoF
    rw [nthI_map (f := fun j => bxor .u8 (nthI l j) (nthI (blkC key (iq ep sq (j / 16))) (j % 16))) hj]
  rw [e]
  unfold xoF
  generalize nthI (blkC key (iq ep sq (j / 16))) (j % 16) = s
  rw [bxor_u8, B8_bxor, BitVec.xor_assoc, BitVec.xor_self, BitVec.xor_zero, nat_B8 (hb j)]
def cBoxR2 (ap : AP) : Ctr
  | [] => .ok ⟨.sl 0 [] 0 256 1 none, [], [.ints .u8 256 (ap _ _ boxU 0)]⟩
  | _ => .fail 431
theorem cBoxR_2 : cBoxR apf = cBoxR2 apf := by
  funext args
  cases args with
  | nil => simp only [cBoxR, cBoxR2, apf_e, chkO, boxU]
  | cons a l => rfl
theorem s150b : Sound Tryd.prog G1 150 (pu 150) (cBoxR2 apf) := by
  rw [← cBoxR_2]
  exact s150
end Go.Cx.Rb
/- CxbEF -/
namespace Go.Cx.Rb
open Go Go.Cx Go.Proofs
structure HdP where
  k : Int
  h : Int
  e : Int
  s : Int
def hdA (ap : AP) (p : HdP) : V := .cat 1 3 (.int .i64 (ap _ _ HdP.k p)) (.cat 1 2 (.int .i64 (ap _ _ HdP.h p)) (.cat 1 1 (.int .u64 (ap _ _ HdP.e p)) (.int .u64 (ap _ _ HdP.s p))))
def hdOk (p : HdP) : Prop := (1 ≤ p.k ∧ p.k ≤ 255) ∧ (0 ≤ p.h ∧ p.h < 256) ∧ p.e ≤ 281474976710655 ∧ p.s ≤ 281474976710655
instance (p : HdP) : Decidable (hdOk p) := by unfold hdOk; infer_instance
def hdR (p : HdP) : Bool := decide (hdOk p)
theorem leI_d (x y : Int) : leI x y = decide (x ≤ y) := rfl
def cHdR (ap : AP) : Ctr
  | [.v (.cat 1 3 (.int .i64 k) (.cat 1 2 (.int .i64 h) (.cat 1 1 (.int .u64 e) (.int .u64 s))))] => .ok ⟨.bool (ap _ _ hdR ⟨k, h, e, s⟩), [], []⟩
  | _ => .fail 450
def cHdI (_ : AP) : Ctr
  | [.v (.cat 1 3 (.int .i64 k) (.cat 1 2 (.int .i64 h) (.cat 1 1 (.int .u64 e) (.int .u64 s))))] => .ok ⟨.cat 1 3 (.int .i64 k) (.cat 1 2 (.int .i64 h) (.cat 1 1 (.int .u64 e) (.int .u64 s))), [], []⟩
  | _ => .fail 451
/-- the first 16 bytes of the derived key of this name -/
def cipK (m : List Int) : List Int := subL (macS m [99, 105, 112, 104, 101, 114]) 0 16
def sealK (m : List Int) : List Int := macS m [115, 101, 97, 108]
def cKys (ap : AP) : Ctr
  | [.v (.ints .u8 32 m)] => .ok ⟨.tcons (.ints .u8 16 (ap _ _ cipK m)) (.tcons (.ints .u8 32 (ap _ _ sealK m)) .tnil), [], []⟩
  | _ => .fail 452
set_option maxRecDepth 20000 in
set_option maxHeartbeats 2000000 in
theorem vc129 (args : List Arg) (out : Out) (h : (cHdR apf args).to out) (hok : okAs args) :
    args.length = ic129.nargs ∧ ic129.nargs ≤ ic129.ntmps ∧ ∃ A, run apf [] A ic129.body (fnQ apf args out ic129.res) (st0 G1 true args) := by
  unfold cHdR at h
  split at h
  · rename_i k h e s
    cases h
    refine ⟨rfl, by decide, [], ?_⟩
    show run apf _ _ _ _ (st0 [(1, .ints .u32 64 kk)] _ _)
    generalize hK : kk = K
    generalize hap : apf = ap
    cbv
    repeat' first
      | exact True.intro
      | (intro (hh : _ = true); first | with_reducible exact False.elim (tf_no (Eq.trans (Eq.symm (show _ = true by assumption)) hh)) | cbv)
      | (intro (hh : _ = false); first | with_reducible exact False.elim (tf_no (Eq.trans (Eq.symm hh) (show _ = false by assumption))) | cbv)
      | with_reducible refine And.intro ?_ ?_
      | (refine ⟨0, Nat.zero_le _, ?_⟩; cbv)
    all_goals subst hap
    all_goals try simp only [apf_e, cmF_g, cmF_l, cmF_le, lt_t, lt_f, le_t, le_f, ge_t, ge_f, eqB'] at *
    all_goals first
      | exact decide_eq_false (fun hh => absurd hh (by unfold hdOk; simp only; omega))
      | exact decide_eq_true (by unfold hdOk; simp only; omega)
      | (rw [leI_d]; exact decide_eq_decide.2 (by unfold hdOk; simp only; omega))
      | skip
  · exact h.elim
set_option maxHeartbeats 2000000 in
theorem s129 : Sound Tryd.prog G1 129 (pu 129) (fun args => cHdR apf (args.map litA)) := (fn_sound rfl Tryd.call129 ok129 co129 env_nil vc129).lits
set_option maxRecDepth 20000 in
set_option maxHeartbeats 2000000 in
theorem vc73 (args : List Arg) (out : Out) (h : (cHdR apf args).to out) (hok : okAs args) :
    args.length = ic73.nargs ∧ ic73.nargs ≤ ic73.ntmps ∧ ∃ A, run apf [] A ic73.body (fnQ apf args out ic73.res) (st0 G1 true args) := by
  unfold cHdR at h
  split at h
  · rename_i k h e s
    cases h
    refine ⟨rfl, by decide, [], ?_⟩
    show run apf _ _ _ _ (st0 [(1, .ints .u32 64 kk)] _ _)
    generalize hK : kk = K
    generalize hap : apf = ap
    cbv
    repeat' first
      | exact True.intro
      | (intro (hh : _ = true); first | with_reducible exact False.elim (tf_no (Eq.trans (Eq.symm (show _ = true by assumption)) hh)) | cbv)
      | (intro (hh : _ = false); first | with_reducible exact False.elim (tf_no (Eq.trans (Eq.symm hh) (show _ = false by assumption))) | cbv)
      | with_reducible refine And.intro ?_ ?_
      | (refine ⟨0, Nat.zero_le _, ?_⟩; cbv)
    all_goals subst hap
    all_goals try simp only [apf_e, cmF_g, cmF_l, cmF_le, lt_t, lt_f, le_t, le_f, ge_t, ge_f, eqB'] at *
    all_goals first
      | exact decide_eq_false (fun hh => absurd hh (by unfold hdOk; simp only; omega))
      | exact decide_eq_true (by unfold hdOk; simp only; omega)
      | (rw [leI_d]; exact decide_eq_decide.2 (by unfold hdOk; simp only; omega))
      | skip
  · exact h.elim
set_option maxHeartbeats 2000000 in
theorem s73 : Sound Tryd.prog G1 73 (pu 73) (fun args => cHdR apf (args.map litA)) := (fn_sound rfl Tryd.call73 ok73 co73 env_nil vc73).lits
set_option maxRecDepth 20000 in
set_option maxHeartbeats 2000000 in
theorem vc65 (args : List Arg) (out : Out) (h : (cHdI apf args).to out) (hok : okAs args) :
    args.length = ic65.nargs ∧ ic65.nargs ≤ ic65.ntmps ∧ ∃ A, run apf [] A ic65.body (fnQ apf args out ic65.res) (st0 G1 true args) := by
  unfold cHdI at h
  split at h
  · rename_i k h e s
    cases h
    refine ⟨rfl, by decide, [], ?_⟩
    show run apf _ _ _ _ (st0 [(1, .ints .u32 64 kk)] _ _)
    generalize hK : kk = K
    generalize hap : apf = ap
    cbv
    repeat' first
      | exact True.intro
      | (intro (hh : _ = true); first | with_reducible exact False.elim (tf_no (Eq.trans (Eq.symm (show _ = true by assumption)) hh)) | cbv)
      | (intro (hh : _ = false); first | with_reducible exact False.elim (tf_no (Eq.trans (Eq.symm hh) (show _ = false by assumption))) | cbv)
      | with_reducible refine And.intro ?_ ?_
      | (refine ⟨0, Nat.zero_le _, ?_⟩; cbv)
    all_goals subst hap
    all_goals try simp only [apf_e, eqI'] at *
    all_goals exact rfl
  · exact h.elim
set_option maxHeartbeats 2000000 in
theorem s65 : Sound Tryd.prog G1 65 (pu 65) (fun args => cHdI apf (args.map litA)) := (fn_sound rfl Tryd.call65 ok65 co65 env_nil vc65).lits
set_option maxRecDepth 20000 in
set_option maxHeartbeats 2000000 in
theorem vc67 (args : List Arg) (out : Out) (h : (cHdI apf args).to out) (hok : okAs args) :
    args.length = ic67.nargs ∧ ic67.nargs ≤ ic67.ntmps ∧ ∃ A, run apf [] A ic67.body (fnQ apf args out ic67.res) (st0 G1 true args) := by
  unfold cHdI at h
  split at h
  · rename_i k h e s
    cases h
    refine ⟨rfl, by decide, [], ?_⟩
    show run apf _ _ _ _ (st0 [(1, .ints .u32 64 kk)] _ _)
    generalize hK : kk = K
    generalize hap : apf = ap
    cbv
    repeat' first
      | exact True.intro
      | (intro (hh : _ = true); first | with_reducible exact False.elim (tf_no (Eq.trans (Eq.symm (show _ = true by assumption)) hh)) | cbv)
      | (intro (hh : _ = false); first | with_reducible exact False.elim (tf_no (Eq.trans (Eq.symm hh) (show _ = false by assumption))) | cbv)
      | with_reducible refine And.intro ?_ ?_
      | (refine ⟨0, Nat.zero_le _, ?_⟩; cbv)
    all_goals subst hap
    all_goals try simp only [apf_e, eqI'] at *
    all_goals exact rfl
  · exact h.elim
set_option maxHeartbeats 2000000 in
theorem s67 : Sound Tryd.prog G1 67 (pu 67) (fun args => cHdI apf (args.map litA)) := (fn_sound rfl Tryd.call67 ok67 co67 env_nil vc67).lits
set_option maxRecDepth 20000 in
set_option maxHeartbeats 2000000 in
theorem vc130 (args : List Arg) (out : Out) (h : (cKys apf args).to out) (hok : okAs args) :
    args.length = ic130.nargs ∧ ic130.nargs ≤ ic130.ntmps ∧ ∃ A, run apf [(119, cDerive apf)] A ic130.body (fnQ apf args out ic130.res) (st0 G1 true args) := by
  unfold cKys at h
  split at h
  · rename_i m
    cases h
    refine ⟨rfl, by decide, [], ?_⟩
    show run apf _ _ _ _ (st0 [(1, .ints .u32 64 kk)] _ _)
    generalize hK : kk = K
    generalize hap : apf = ap
    cbv
    repeat' first
      | exact True.intro
      | (intro (hh : _ = true); first | with_reducible exact False.elim (tf_no (Eq.trans (Eq.symm (show _ = true by assumption)) hh)) | cbv)
      | (intro (hh : _ = false); first | with_reducible exact False.elim (tf_no (Eq.trans (Eq.symm hh) (show _ = false by assumption))) | cbv)
      | with_reducible refine And.intro ?_ ?_
      | (refine ⟨0, Nat.zero_le _, ?_⟩; cbv)
    all_goals subst hap
    all_goals try simp only [apf_e, eqN, eqL'] at *
    all_goals try simp only [addN0]
    all_goals first
      | (simp only [leN, llen, V.cnt]; decide)
      | exact rfl
      | skip
  · exact h.elim
set_option maxHeartbeats 2000000 in
theorem s130 : Sound Tryd.prog G1 130 (pu 130) (cKys apf) := fn_sound rfl Tryd.call130 ok130 co130 (env_cons s119 env_nil) vc130
end Go.Cx.Rb
/- CxbEG -/
namespace Go.Cx.Rb
open Go Go.Cx Go.Proofs
def hLn (i : Nat) : Nat := 8 + 8 * i
def numsH (p : HdP) : List Int := [p.e, p.s, wcv .u64 p.h, 0]
def hbS (p : HdP) : Nat → List Int
  | 0 => catL (subL [67, 76, 83, 49] 0 4) (subL [wcv .u8 p.k, 0, 0, 0] 0 4)
  | i + 1 => catL (subL (hbS p i) 0 (hLn i)) (subL (beL 8 (nthI (numsH p) i)) 0 8)
/-- a head's 40 bytes -/
def hdB (p : HdP) : List Int := hbS p 4
theorem subL_id {l : List Int} {n : Nat} (h : l.length = n) : subL l 0 n = l := subL_all (Nat.le_of_eq h)
theorem hbS_len {p : HdP} : ∀ i, (hbS p i).length = hLn i := by
  intro i
  induction i with
  | zero => rfl
  | succ i ih =>
    show (subL (hbS p i) 0 (hLn i) ++ subL (beL 8 _) 0 8).length = _
    rw [subL_id ih, subL_id (beL_len 8 _), List.length_append, ih, beL_len]
    unfold hLn; omega
theorem hdB_eq (p : HdP) : hdB p = [67, 76, 83, 49, wcv .u8 p.k, 0, 0, 0] ++ beL 8 p.e ++ beL 8 p.s ++ beL 8 (wcv .u64 p.h) ++ beL 8 0 := by
  show catL (subL (hbS p 3) 0 (hLn 3)) (subL (beL 8 0) 0 8) = _
  rw [subL_id (hbS_len 3), subL_id (beL_len 8 _)]
  show catL (subL (hbS p 2) 0 (hLn 2)) (subL (beL 8 (wcv .u64 p.h)) 0 8) ++ _ = _
  rw [subL_id (hbS_len 2), subL_id (beL_len 8 _)]
  show catL (subL (hbS p 1) 0 (hLn 1)) (subL (beL 8 p.s) 0 8) ++ _ ++ _ = _
  rw [subL_id (hbS_len 1), subL_id (beL_len 8 _)]
  show catL (subL (hbS p 0) 0 (hLn 0)) (subL (beL 8 p.e) 0 8) ++ _ ++ _ ++ _ = _
  rw [subL_id (hbS_len 0), subL_id (beL_len 8 _)]
  rfl
theorem wcv_u64_rng (x : Int) : 0 ≤ wcv .u64 x ∧ wcv .u64 x < 18446744073709551616 := by
  have h := inR_u64.1 (inR_wrap .u64 x)
  show 0 ≤ IntKind.u64.wrap x ∧ IntKind.u64.wrap x < _
  omega
theorem toNat8 : Int.toNat 8 = 8 := rfl
theorem fits8 {x : Int} (h : 0 ≤ x ∧ x < 18446744073709551616) : fitsB x 8 := by
  show 0 ≤ _ ∧ _ < (18446744073709551616 : Int)
  exact h
theorem numsH_fit {p : HdP} (he : inR .u64 p.e) (hs : inR .u64 p.s) (i : Nat) : fitsB (nthI (numsH p) i) 8 := by
  have he := inR_u64.1 he
  have hs := inR_u64.1 hs
  have h2 := wcv_u64_rng p.h
  apply fits8
  rcases i with _ | _ | _ | _ | i
  · show 0 ≤ p.e ∧ p.e < _
    omega
  · show 0 ≤ p.s ∧ p.s < _
    omega
  · exact h2
  · exact show (0 : Int) ≤ 0 ∧ (0 : Int) < 18446744073709551616 by decide
  · exact show (0 : Int) ≤ 0 ∧ (0 : Int) < 18446744073709551616 by decide
theorem hbS_0 {p : HdP} : hbS p 0 = catL (subL [67, 76, 83, 49] 0 4) (subL [wcv .u8 p.k, 0, 0, 0] 0 4) := rfl
theorem hbS_s {p : HdP} {i : Nat} : hbS p i.succ = catL (subL (hbS p i) 0 (hLn i)) (subL (beL 8 (nthI (numsH p) i)) 0 8) := rfl
def cHdB (ap : AP) : Ctr
  | [.v (.cat 1 3 (.int .i64 k) (.cat 1 2 (.int .i64 h) (.cat 1 1 (.int .u64 e) (.int .u64 s))))] => .ok ⟨.sl 0 [] 0 40 1 none, [], [.ints .u8 40 (ap _ _ hdB ⟨k, h, e, s⟩)]⟩
  | _ => .fail 453
def aHdB (ap : AP) (p : HdP) : List (Nat × Ann) := [
  (0, .inv Nat (fun i => ⟨[(3, .sl 7000 [] 0 (ap _ _ hLn i) 1 none), (22, .sl 22 [] 0 4 1 none), (23, .int .i64 (ap _ _ lenI 4)), (24, .int .i64 (ap _ _ lenI i))],
    [(7000, ⟨.own, .ints .u8 (ap _ _ hLn i) (ap _ _ (ap _ _ hbS p) i)⟩), (22, ⟨.own, .ints .u64 4 (ap _ _ numsH p)⟩)], renJ i 7000 14 35⟩) (fun i => i ≤ 4) (fun i => 4 - i))]
def cutL (c : List Int) : Nat → List Int
  | 0 => zerosI 16
  | i + 1 => setI (cutL c i) i (nthI c i)
theorem cutL_spec {c : List Int} : ∀ i, i ≤ 16 → (cutL c i).length = 16 ∧ ∀ j, nthI (cutL c i) j = if j < i then nthI c j else 0 := by
  intro i
  induction i with
  | zero => exact fun _ => ⟨zeros_len, fun j => nthI_zeros⟩
  | succ i ih =>
    intro hi
    obtain ⟨h1, h2⟩ := ih (by omega)
    refine ⟨setI_len.trans h1, fun j => ?_⟩
    rw [cutL, nthI_setJ (by omega), h2 j]
    by_cases e : j = i
    · subst e
      rw [if_pos rfl, if_pos (by omega)]
    · rw [if_neg e]
      by_cases e2 : j < i
      · rw [if_pos e2, if_pos (by omega)]
      · rw [if_neg e2, if_neg (by omega)]
theorem cutL_end {c : List Int} (h : 16 ≤ c.length) : cutL c 16 = subL c 0 16 := by
  refine list_ext (n := 16) (cutL_spec 16 (Nat.le_refl _)).1 (subL_len (by omega)) fun i hi => ?_
  rw [(cutL_spec 16 (Nat.le_refl _)).2, if_pos hi, nthI_subL hi, Nat.zero_add]
theorem cutL_0 {c : List Int} : cutL c 0 = zerosI 16 := rfl
theorem cutL_s {c : List Int} {i : Nat} : cutL c i.succ = setI (cutL c i) i (nthI c i) := rfl
def crs7 (m : List Int) (p : HdP) (l : List Int) : List Int := crossL (cipK m) p.e p.s l
def cCrs (ap : AP) : Ctr
  | [.v (.ints .u8 32 m), .v (.cat 1 3 (.int .i64 k) (.cat 1 2 (.int .i64 h) (.cat 1 1 (.int .u64 e) (.int .u64 s)))), .b n 1 (.ints .u8 n' l)] => .chk (ap _ _ (ap _ _ eqN n) 440) <| .chk (ap _ _ (ap _ _ eqN n') 440) <| .ok ⟨.sl 0 [] 0 440 1 none, [], [.ints .u8 440 (ap _ _ (ap _ _ (ap _ _ crs7 m) ⟨k, h, e, s⟩) l)]⟩
  | _ => .fail 454
def aCrs (ap : AP) (m l : List Int) (k h e s : Int) : List (Nat × Ann) := [
  (0, .inv Nat (fun i => ⟨[(2, .sl (parH 2) [] 0 440 1 none), (4, .ptr 4 []), (7, .ptr 7 []), (8, .ptr 8 []), (9, .int .i64 (ap _ _ lenI i))],
    [(parH 2, ⟨.bor, .ints .u8 440 l⟩), (4, ⟨.own, .cat 1 3 (.int .i64 k) (.cat 1 2 (.int .i64 h) (.cat 1 1 (.int .u64 e) (.int .u64 s)))⟩), (7, ⟨.own, .ints .u8 32 (ap _ _ (ap _ _ macS m) [99, 105, 112, 104, 101, 114])⟩), (8, ⟨.own, .ints .u8 16 (ap _ _ (ap _ _ cutL (ap _ _ (ap _ _ macS m) [99, 105, 112, 104, 101, 114])) i)⟩)], []⟩) (fun i => i ≤ 16) (fun i => 16 - i))]
def tagL (m b : List Int) : List Int := macS (sealK m) (subL b 0 480)
def cTg7 (ap : AP) : Ctr
  | [.v (.ints .u8 32 m), .b n 1 (.ints .u8 _ b)] => .chk (ap _ _ (ap _ _ leN 480) n) <| .ok ⟨.str (ap _ _ (ap _ _ tagL m) b), [], []⟩
  | _ => .fail 455
def holdsL (m b : List Int) : Bool := eqL (tagL m b) (subL b 480 32)
def cHld (ap : AP) : Ctr
  | [.v (.ints .u8 32 m), .b n 1 (.ints .u8 _ b)] => .chk (ap _ _ (ap _ _ eqN n) 512) <| .ok ⟨.bool (ap _ _ (ap _ _ holdsL m) b), [], []⟩
  | _ => .fail 456
set_option maxRecDepth 20000 in
set_option maxHeartbeats 2000000 in
theorem vc132 (args : List Arg) (out : Out) (h : (cHdB apf args).to out) (hok : okAs args) :
    args.length = ic132.nargs ∧ ic132.nargs ≤ ic132.ntmps ∧ ∃ A, run apf [(107, cNum apf)] A ic132.body (fnQ apf args out ic132.res) (st0 G1 true args) := by
  unfold cHdB at h
  split at h
  · rename_i k h e s
    cases h
    obtain ⟨⟨_, _, he, hs⟩, _⟩ := hok
    refine ⟨rfl, by decide, aHdB apf ⟨k, h, e, s⟩, ?_⟩
    show run apf _ _ _ _ (st0 [(1, .ints .u32 64 kk)] _ _)
    generalize hK : kk = K
    generalize hap : apf = ap
    cbv
    repeat' first
      | exact True.intro
      | (intro (hh : _ = true); first | with_reducible exact False.elim (tf_no (Eq.trans (Eq.symm (show _ = true by assumption)) hh)) | cbv)
      | (intro (hh : _ = false); first | with_reducible exact False.elim (tf_no (Eq.trans (Eq.symm hh) (show _ = false by assumption))) | cbv)
      | with_reducible refine And.intro ?_ ?_
      | (refine ⟨0, Nat.zero_le _, ?_⟩; cbv)
    all_goals first
      | (intro (i : Nat) hi hts hhs
         have hi : i ≤ 4 := hi
         all_goals try cbv
         repeat' first
           | exact True.intro
           | (intro (hh : _ = true); first | with_reducible exact False.elim (tf_no (Eq.trans (Eq.symm (show _ = true by assumption)) hh)) | cbv)
           | (intro (hh : _ = false); first | with_reducible exact False.elim (tf_no (Eq.trans (Eq.symm hh) (show _ = false by assumption))) | cbv)
           | with_reducible refine And.intro ?_ ?_
           | (refine ⟨i + 1, ?_, (?_ : _ < _), ?_⟩; rotate_left 2; try cbv)
           | (refine ⟨0, Nat.zero_le _, ?_⟩; cbv))
      | skip
    all_goals subst hap
    all_goals try simp only [apf_e, arF_add, cmF_l, lt_t, lt_f, eqN, eqI', eqL', ltN, natI, lenI] at *
    all_goals try simp only [addN0, Int.toNat_natCast, toNat8]
    all_goals first
      | omega
      | (simp only [leN, hLn, appN, addN, V.cnt] <;> omega)
      | (show 4 - (i + 1) < 4 - i; omega)
      | exact numsH_fit (p := ⟨k, h, e, s⟩) he hs i
      | (with_reducible first | exact hbS_0 | exact hbS_s | exact (inc_i64 (i := i) (by omega)).symm)
      | (with_reducible show numsH _ = _
         exact rfl)
      | (have e4 : i = 4 := by omega
         subst e4
         exact rfl)
      | skip
  · exact h.elim
set_option maxHeartbeats 2000000 in
theorem s132 : Sound Tryd.prog G1 132 (pu 132) (cHdB apf) := fn_sound rfl Tryd.call132 ok132 co132 (env_cons s107 env_nil) vc132
set_option maxRecDepth 20000 in
set_option maxHeartbeats 2000000 in
theorem vc133 (args : List Arg) (out : Out) (h : (cHdB apf args).to out) (hok : okAs args) :
    args.length = ic133.nargs ∧ ic133.nargs ≤ ic133.ntmps ∧ ∃ A, run apf [(113, cPut apf)] A ic133.body (fnQ apf args out ic133.res) (st0 G1 true args) := by
  unfold cHdB at h
  split at h
  · rename_i k h e s
    cases h
    obtain ⟨⟨_, _, he, hs⟩, _⟩ := hok
    have he := inR_u64.1 he
    have hs := inR_u64.1 hs
    have hh := wcv_u64_rng h
    refine ⟨rfl, by decide, [], ?_⟩
    show run apf _ _ _ _ (st0 [(1, .ints .u32 64 kk)] _ _)
    generalize hK : kk = K
    generalize hap : apf = ap
    cbv
    repeat' first
      | exact True.intro
      | (intro (hh : _ = true); first | with_reducible exact False.elim (tf_no (Eq.trans (Eq.symm (show _ = true by assumption)) hh)) | cbv)
      | (intro (hh : _ = false); first | with_reducible exact False.elim (tf_no (Eq.trans (Eq.symm hh) (show _ = false by assumption))) | cbv)
      | with_reducible refine And.intro ?_ ?_
      | (refine ⟨0, Nat.zero_le _, ?_⟩; cbv)
    all_goals subst hap
    all_goals try simp only [apf_e, eqN, eqL', ltN] at *
    all_goals first
      | omega
      | (simp only [leN, appN, addN, V.cnt] <;> omega)
      | (refine fits8 ?_; omega)
      | (rw [hdB_eq]
         simp only
         exact rfl)
      | skip
  · exact h.elim
set_option maxHeartbeats 2000000 in
theorem s133a : Sound Tryd.prog G1 133 (pu 133) (cHdB apf) := fn_sound rfl Tryd.call133 ok133 co133 (env_cons s113 env_nil) vc133
theorem s133 : Sound Tryd.prog G2 133 (pu 133) (fun args => cHdB apf (args.map litA)) := s133a.lits.more g12
theorem s149g : Sound Tryd.prog G2 149 (pu 149) (cOver apf) := s149.more g12
theorem s150g : Sound Tryd.prog G2 150 (pu 150) (cBoxR2 apf) := s150b.more g12
theorem box_len : boxL.length = 256 := by kernel_rfl
theorem boxU_sub : subL (boxU 0) 0 256 = boxL := subL_id box_len
theorem mac_len' {k b : List Int} : (macS k b).length = 32 := macS_len k b
set_option maxRecDepth 20000 in
set_option maxHeartbeats 2000000 in
theorem vc134 (args : List Arg) (out : Out) (h : (cCrs apf args).to out) (hok : okAs args) :
    args.length = ic134.nargs ∧ ic134.nargs ≤ ic134.ntmps ∧ ∃ A, run apf [(142, cDerive apf), (150, cBoxR2 apf), (149, cOver apf)] A ic134.body (fnQ apf args out ic134.res) (st0 G2 true args) := by
  unfold cCrs at h
  split at h
  · rename_i m k h e s n n' l
    obtain ⟨hn, hn', h⟩ := h
    cases h
    cases (show n = 440 from hn)
    cases (show n' = 440 from hn')
    clear hn hn'
    have hl : l.length = 440 := hok.2.2.1.2.2.1
    refine ⟨rfl, by decide, aCrs apf m l k h e s, ?_⟩
    show run apf _ _ _ _ (st0 [(0, .ints .u32 64 kk), (1, .ints .u32 64 kk)] _ _)
    generalize hK : kk = K
    generalize hap : apf = ap
    cbv
    repeat' first
      | exact True.intro
      | (intro (hh : _ = true); first | with_reducible exact False.elim (tf_no (Eq.trans (Eq.symm (show _ = true by assumption)) hh)) | cbv)
      | (intro (hh : _ = false); first | with_reducible exact False.elim (tf_no (Eq.trans (Eq.symm hh) (show _ = false by assumption))) | cbv)
      | with_reducible refine And.intro ?_ ?_
      | (refine ⟨0, Nat.zero_le _, ?_⟩; cbv)
    all_goals first
      | (intro (i : Nat) hi _ _
         have hi : i ≤ 16 := hi
         all_goals try cbv
         repeat' first
           | exact True.intro
           | (intro (hh : _ = true); first | with_reducible exact False.elim (tf_no (Eq.trans (Eq.symm (show _ = true by assumption)) hh)) | cbv)
           | (intro (hh : _ = false); first | with_reducible exact False.elim (tf_no (Eq.trans (Eq.symm hh) (show _ = false by assumption))) | cbv)
           | with_reducible refine And.intro ?_ ?_
           | (refine ⟨i + 1, ?_, (?_ : _ < _), ?_⟩; rotate_left 2; try cbv)
           | (refine ⟨0, Nat.zero_le _, ?_⟩; cbv))
      | skip
    all_goals subst hap
    all_goals try simp only [apf_e, arF_add, cmF_l, lt_t, lt_f, eqN, eqI', eqL', ltN, natI, lenI] at *
    all_goals try simp only [addN0, Int.toNat_natCast, boxU_sub, subL_id hl]
    all_goals first
      | omega
      | (simp only [leN, llen, V.cnt]; decide)
      | (simp only [leN, V.cnt, addN]; omega)
      | (show 16 - (i + 1) < 16 - i; omega)
      | (with_reducible first | exact cutL_0 | exact cutL_s | exact (inc_i64 (i := i) (by omega)).symm)
      | (have e6 : i = 16 := by omega
         subst e6
         rw [cutL_end (by rw [mac_len']; omega)]
         show crossL (cipK m) e s l = _
         rw [← cross_over (show (cipK m).length = 16 from subL_len (by rw [mac_len']; omega)), cipK])
      | skip
  · exact h.elim
set_option maxHeartbeats 2000000 in
theorem s134 : Sound Tryd.prog G2 134 (pu 134) (cCrs apf) := fn_sound rfl Tryd.call134 ok134 co134 (env_cons s142 (env_cons s150g (env_cons s149g env_nil))) vc134
set_option maxRecDepth 20000 in
set_option maxHeartbeats 2000000 in
theorem vc135 (args : List Arg) (out : Out) (h : (cTg7 apf args).to out) (hok : okAs args) :
    args.length = ic135.nargs ∧ ic135.nargs ≤ ic135.ntmps ∧ ∃ A, run apf [(142, cDerive apf), (141, cMacR apf)] A ic135.body (fnQ apf args out ic135.res) (st0 G2 true args) := by
  unfold cTg7 at h
  split at h
  · rename_i m n n' b
    obtain ⟨hn, h⟩ := h
    cases h
    have hn : 480 ≤ n := hn
    obtain ⟨rfl, _⟩ := hok.2.1.2.1
    refine ⟨rfl, by decide, [], ?_⟩
    show run apf _ _ _ _ (st0 [(0, .ints .u32 64 kk), (1, .ints .u32 64 kk)] _ _)
    generalize hK : kk = K
    generalize hap : apf = ap
    cbv
    repeat' first
      | exact True.intro
      | (intro (hh : _ = true); first | with_reducible exact False.elim (tf_no (Eq.trans (Eq.symm (show _ = true by assumption)) hh)) | cbv)
      | (intro (hh : _ = false); first | with_reducible exact False.elim (tf_no (Eq.trans (Eq.symm hh) (show _ = false by assumption))) | cbv)
      | with_reducible refine And.intro ?_ ?_
      | (refine ⟨0, Nat.zero_le _, ?_⟩; cbv)
    all_goals subst hap
    all_goals try simp only [apf_e, eqL'] at *
    all_goals try simp only [addN0]
    all_goals first
      | omega
      | (simp only [leN, llen, V.cnt]; decide)
      | (simp only [leN, V.cnt]; omega)
      | (simp only [tagL, sealK, subL_id mac_len'])
      | skip
  · exact h.elim
set_option maxHeartbeats 2000000 in
theorem s135 : Sound Tryd.prog G2 135 (pu 135) (cTg7 apf) := fn_sound rfl Tryd.call135 ok135 co135 (env_cons s142 (env_cons s141 env_nil)) vc135
set_option maxRecDepth 20000 in
set_option maxHeartbeats 2000000 in
theorem vc74 (args : List Arg) (out : Out) (h : (cHld apf args).to out) (hok : okAs args) :
    args.length = ic74.nargs ∧ ic74.nargs ≤ ic74.ntmps ∧ ∃ A, run apf [(135, cTg7 apf)] A ic74.body (fnQ apf args out ic74.res) (st0 G2 true args) := by
  unfold cHld at h
  split at h
  · rename_i m n n' b
    obtain ⟨hn, h⟩ := h
    cases h
    cases (show n = 512 from hn)
    obtain ⟨rfl, _⟩ := hok.2.1.2.1
    have hb : b.length = 512 := hok.2.1.2.2.1
    refine ⟨rfl, by decide, [], ?_⟩
    show run apf _ _ _ _ (st0 [(0, .ints .u32 64 kk), (1, .ints .u32 64 kk)] _ _)
    generalize hK : kk = K
    generalize hap : apf = ap
    cbv
    repeat' first
      | exact True.intro
      | (intro (hh : _ = true); first | with_reducible exact False.elim (tf_no (Eq.trans (Eq.symm (show _ = true by assumption)) hh)) | cbv)
      | (intro (hh : _ = false); first | with_reducible exact False.elim (tf_no (Eq.trans (Eq.symm hh) (show _ = false by assumption))) | cbv)
      | with_reducible refine And.intro ?_ ?_
      | (refine ⟨0, Nat.zero_le _, ?_⟩; cbv)
    all_goals subst hap
    all_goals try simp only [apf_e, eqN, eqB'] at *
    all_goals try simp only [addN0, subL_id hb]
    all_goals first
      | omega
      | (simp only [leN, V.cnt, addN, subN]; omega)
      | exact rfl
      | skip
  · exact h.elim
set_option maxHeartbeats 2000000 in
theorem s74 : Sound Tryd.prog G2 74 (pu 74) (cHld apf) := fn_sound rfl Tryd.call74 ok74 co74 (env_cons s135 env_nil) vc74
end Go.Cx.Rb
/- CxbEH -/
namespace Go.Cx.Rb
open Go Go.Cx Go.Proofs
theorem s73g : Sound Tryd.prog G2 73 (pu 73) (fun args => cHdR apf (args.map litA)) := s73.more g12
def clOk (n : Nat) (p : HdP) : Bool := decide (n = 440) && hdR p
def clE (n : Nat) (p : HdP) : Int := if n = 440 then (if hdR p = true then 0 else 2) else 3
def img0 (m : List Int) (p : HdP) (l : List Int) : List Int := hdB p ++ crs7 m p l
/-- the image of a payload -/
def sealL (m : List Int) (p : HdP) (l : List Int) : List Int := img0 m p l ++ macS (sealK m) (img0 m p l)
theorem img0_len {m l : List Int} {p : HdP} : (img0 m p l).length = 480 := by
  rw [img0, List.length_append, show (hdB p).length = 40 from hbS_len 4, crs7, cross_len]
theorem sealL_len {m l : List Int} {p : HdP} : (sealL m p l).length = 512 := by
  rw [sealL, List.length_append, img0_len, mac_len']
theorem hd_in {p : HdP} (h : hdR p = true) (he : inR .u64 p.e) (hs : inR .u64 p.s) : inEp p.e ∧ inEp p.s := by
  have h : hdOk p := of_decide_eq_true h
  have he := inR_u64.1 he
  have hs := inR_u64.1 hs
  exact ⟨⟨he.1, h.2.2.1⟩, ⟨hs.1, h.2.2.2⟩⟩
theorem sub40 {p : HdP} : subL (hdB p) 0 40 = hdB p := subL_id (hbS_len 4)
theorem sub440 {c l : List Int} {e s : Int} : subL (crossL c e s l) 0 440 = crossL c e s l := subL_id cross_len
theorem sub440' {m l : List Int} {p : HdP} : subL (crs7 m p l) 0 440 = crs7 m p l := sub440
theorem subK {m : List Int} : subL (sealK m) 0 32 = sealK m := subL_id mac_len'
theorem mac32 {k b : List Int} : subL (macS k b) 0 32 = macS k b := subL_id mac_len'
theorem img_e {m l : List Int} {k g e s : Int} : catL (hdB ⟨k, g, e, s⟩) (crossL (cipK m) e s l) = img0 m ⟨k, g, e, s⟩ l := rfl
theorem img_r {m l : List Int} {p : HdP} : catL (hdB p) (crs7 m p l) = img0 m p l := rfl
theorem sub480 {m l : List Int} {p : HdP} : subL (img0 m p l) 0 (addN 40 440) = img0 m p l := subL_id img0_len
theorem tag_i {m l : List Int} {p : HdP} : tagL m (img0 m p l) = macS (sealK m) (img0 m p l) := by rw [tagL, subL_id img0_len]
theorem seal_e {m l : List Int} {p : HdP} : catL (img0 m p l) (macS (sealK m) (img0 m p l)) = sealL m p l := rfl
theorem llen_mac {k b : List Int} : llen (macS k b) = 32 := mac_len'
theorem clOk_t {n : Nat} {p : HdP} (h : clOk n p = true) : n = 440 ∧ hdR p = true := by
  unfold clOk at h
  simpa using h
theorem clOk_n {n : Nat} {p : HdP} (h : clOk n p = false) : ¬ (n = 440 ∧ hdR p = true) := by
  unfold clOk at h
  simpa using h
theorem clE_0 {n : Nat} {p : HdP} (h : n = 440) (h2 : hdR p = true) : clE n p = 0 := by rw [clE, if_pos h, if_pos h2]
theorem clE_2 {n : Nat} {p : HdP} (h : n = 440) (h2 : hdR p = false) : clE n p = 2 := by rw [clE, if_pos h, h2]; rfl
theorem clE_3 {n : Nat} {p : HdP} (h : n ≠ 440) : clE n p = 3 := by rw [clE, if_neg h]
theorem s131l : Sound Tryd.prog G1 131 (pu 131) (fun args => cCross apf (args.map litA)) := s131.lits
theorem s132l : Sound Tryd.prog G1 132 (pu 132) (fun args => cHdB apf (args.map litA)) := s132.lits
theorem s134l : Sound Tryd.prog G2 134 (pu 134) (fun args => cCrs apf (args.map litA)) := s134.lits
def cCls (ap : AP) : Ctr
  | [.v (.ints .u8 32 m), .v (.cat 1 3 (.int .i64 k) (.cat 1 2 (.int .i64 g) (.cat 1 1 (.int .u64 e) (.int .u64 s)))), .b n 1 (.ints .u8 _ l)] => .br (ap _ _ (ap _ _ clOk n) ⟨k, g, e, s⟩)
      (.ok ⟨.tcons (.sl 0 [] 0 512 1 none) (.tcons (.int .i64 (ap _ _ (ap _ _ clE n) ⟨k, g, e, s⟩)) .tnil), [], [.ints .u8 512 (ap _ _ (ap _ _ (ap _ _ sealL m) ⟨k, g, e, s⟩) l)]⟩)
      (.ok ⟨.tcons .nsl (.tcons (.int .i64 (ap _ _ (ap _ _ clE n) ⟨k, g, e, s⟩)) .tnil), [], []⟩)
  | _ => .fail 457
set_option maxRecDepth 20000 in
set_option maxHeartbeats 2000000 in
theorem vc64 (args : List Arg) (out : Out) (h : (cCls apf args).to out) (hok : okAs args) :
    args.length = ic64.nargs ∧ ic64.nargs ≤ ic64.ntmps ∧ ∃ A, run apf [(129, (fun args => cHdR apf (args.map litA))), (130, cKys apf), (131, (fun args => cCross apf (args.map litA))), (132, (fun args => cHdB apf (args.map litA))), (120, cMac apf)] A ic64.body (fnQ apf args out ic64.res) (st0 G1 true args) := by
  unfold cCls at h
  split at h
  · rename_i m k g e s n n' l
    obtain ⟨_, ⟨⟨_, _, he, hs⟩, ⟨hn1, ⟨rfl, _⟩, hl⟩, _⟩⟩ := hok
    have hdI : hdR ⟨k, g, e, s⟩ = true → inEp e ∧ inEp s := fun hh => hd_in (p := ⟨k, g, e, s⟩) hh he hs
    rcases h with ⟨hb, h⟩ | ⟨hb, h⟩
    all_goals cases h
    all_goals
      refine ⟨rfl, by decide, [], ?_⟩
      show run apf _ _ _ _ (st0 [(1, .ints .u32 64 kk)] _ _)
      generalize hK : kk = K
      generalize hap : apf = ap
      cbv
      repeat' first
        | exact True.intro
        | (intro (hh : _ = true); first | with_reducible exact False.elim (tf_no (Eq.trans (Eq.symm (show _ = true by assumption)) hh)) | cbv)
        | (intro (hh : _ = false); first | with_reducible exact False.elim (tf_no (Eq.trans (Eq.symm hh) (show _ = false by assumption))) | cbv)
        | with_reducible refine And.intro ?_ ?_
        | (refine ⟨0, Nat.zero_le _, ?_⟩; cbv)
      all_goals subst hap
      all_goals try simp only [apf_e, cmF_n, ne_t, ne_f, notB_t, notB_f, eqN, eqI', eqL', lenI] at *
      all_goals try simp only [addN0]
      all_goals try simp only [subL_id hl.1, sub40, sub440, subK, img_e, sub480, mac32, seal_e]
      all_goals first
        | omega
        | (have hx := hdI (by assumption)
           first | with_reducible exact hx.1 | with_reducible exact hx.2)
        | (have hx := clOk_t hb
           exact absurd hx.2 (by rw [show hdR _ = false by assumption]; decide))
        | (have hx := clOk_t hb
           exact absurd hx.1 (by omega))
        | (have hx := clOk_n hb
           exact absurd ⟨by omega, by assumption⟩ hx)
        | (with_reducible first | exact clE_0 (by omega) (by assumption) | exact clE_2 (by omega) (by assumption) | exact clE_3 (by omega))
        | (simp only [leN, appN, addN, V.cnt] <;> omega)
        | exact rfl
        | skip
  · exact h.elim
set_option maxHeartbeats 2000000 in
theorem s64 : Sound Tryd.prog G1 64 (pu 64) (cCls apf) := fn_sound rfl Tryd.call64 ok64 co64 (env_cons s129 (env_cons s130 (env_cons s131l (env_cons s132l (env_cons s120 env_nil))))) vc64
set_option maxRecDepth 20000 in
set_option maxHeartbeats 2000000 in
theorem vc66 (args : List Arg) (out : Out) (h : (cCls apf args).to out) (hok : okAs args) :
    args.length = ic66.nargs ∧ ic66.nargs ≤ ic66.ntmps ∧ ∃ A, run apf [(73, (fun args => cHdR apf (args.map litA))), (133, (fun args => cHdB apf (args.map litA))), (134, (fun args => cCrs apf (args.map litA))), (135, cTg7 apf)] A ic66.body (fnQ apf args out ic66.res) (st0 G2 true args) := by
  unfold cCls at h
  split at h
  · rename_i m k g e s n n' l
    obtain ⟨_, ⟨⟨_, _, he, hs⟩, ⟨hn1, ⟨rfl, _⟩, hl⟩, _⟩⟩ := hok
    have hdI : hdR ⟨k, g, e, s⟩ = true → inEp e ∧ inEp s := fun hh => hd_in (p := ⟨k, g, e, s⟩) hh he hs
    rcases h with ⟨hb, h⟩ | ⟨hb, h⟩
    all_goals cases h
    all_goals
      refine ⟨rfl, by decide, [], ?_⟩
      show run apf _ _ _ _ (st0 [(0, .ints .u32 64 kk), (1, .ints .u32 64 kk)] _ _)
      generalize hK : kk = K
      generalize hap : apf = ap
      cbv
      repeat' first
        | exact True.intro
        | (intro (hh : _ = true); first | with_reducible exact False.elim (tf_no (Eq.trans (Eq.symm (show _ = true by assumption)) hh)) | cbv)
        | (intro (hh : _ = false); first | with_reducible exact False.elim (tf_no (Eq.trans (Eq.symm hh) (show _ = false by assumption))) | cbv)
        | with_reducible refine And.intro ?_ ?_
        | (refine ⟨0, Nat.zero_le _, ?_⟩; cbv)
      all_goals subst hap
      all_goals try simp only [apf_e, cmF_n, ne_t, ne_f, notB_t, notB_f, eqN, eqI', eqL', lenI] at *
      all_goals try simp only [addN0]
      all_goals try simp only [subL_id hl.1, sub40, sub440', img_r, sub480, mac32, tag_i, seal_e, llen_mac]
      all_goals first
        | omega
        | (have hx := hdI (by assumption)
           first | with_reducible exact hx.1 | with_reducible exact hx.2)
        | (have hx := clOk_t hb
           exact absurd hx.2 (by rw [show hdR _ = false by assumption]; decide))
        | (have hx := clOk_t hb
           exact absurd hx.1 (by omega))
        | (have hx := clOk_n hb
           exact absurd ⟨by omega, by assumption⟩ hx)
        | (with_reducible first | exact clE_0 (by omega) (by assumption) | exact clE_2 (by omega) (by assumption) | exact clE_3 (by omega))
        | (simp only [leN, appN, addN, V.cnt] <;> omega)
        | exact rfl
        | skip
  · exact h.elim
set_option maxHeartbeats 2000000 in
theorem s66 : Sound Tryd.prog G2 66 (pu 66) (cCls apf) := fn_sound rfl Tryd.call66 ok66 co66 (env_cons s73g (env_cons s133 (env_cons s134l (env_cons s135 env_nil)))) vc66
end Go.Cx.Rb
