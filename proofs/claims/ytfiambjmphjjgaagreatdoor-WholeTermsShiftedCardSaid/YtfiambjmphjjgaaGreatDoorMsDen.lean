/- Part of a proof: a checked evaluator of the program (from the deep form to the shallow one; the places of a frame). No condition. -/
import Derived.Test.YtfiambjmphjjgaaGreatDoorMsTr
import Derived.Test.YtfiambjmphjjgaaGreatDoorMsRel
/-! from the deep form to the shallow one; the places of a frame -/
noncomputable section
namespace Go.Proofs.YtfiambjmphjjgaaGreatDoor.Ms
set_option linter.unusedVariables false
set_option linter.unusedSimpArgs false
def tList : List Ev := [t0, t1, t2, t3, t4, t5, t6, t7, t8, t9, t10, t11, t12, t13, t14, t15, t16, t17, t18, t19, t20, t21, t22, t23, t24, t25, t26, t27, t28, t29, t30, t31, t32, t33, t34, t35, t36, t37, t38, t39, t40, t41, t42, t43, t44, t45, t46, t47, t48, t49, t50, t51, t52, t53, t54, t55, t56, t57, t58, t59, t60, t61, t62, t63, t64, t65, t66, t67, t68, t69, t70, t71, t72, t73, t74, t75, t76, t77, t78, t79, t80, t81, t82, t83, t84, t85, t86, t87, t88, t89, t90, t91, t92, t93, t94, t95, t96, t97, t98, t99, t100, t101, t102, t103, t104, t105, t106, t107, t108, t109, t110, t111, t112, t113, t114, t115, t116, t117, t118, t119, t120, t121, t122, t123, t124, t125, t126, t127, t128, t129, t130, t131, t132, t133, t134, t135, t136, t137, t138, t139, t140, t141, t142, t143, t144, t145, t146, t147, t148, t149, t150, t151, t152, t153, t154, t155, t156, t157, t158, t159, t160, t161, t162, t163, t164, t165, t166, t167, t168, t169, t170, t171, t172, t173, t174, t175, t176, t177, t178, t179, t180, t181, t182, t183, t184, t185, t186, t187, t188, t189, t190, t191, t192, t193, t194, t195, t196, t197, t198, t199, t200, t201, t202, t203, t204, t205, t206, t207, t208, t209, t210, t211, t212, t213, t214, t215, t216, t217, t218, t219, t220, t221, t222, t223, t224, t225, t226, t227, t228, t229, t230, t231, t232, t233, t234, t235, t236, t237, t238, t239, t240, t241, t242, t243, t244, t245, t246, t247, t248, t249, t250, t251, t252, t253, t254, t255]
def sList : List Dv := [s0, s1, s2, s3, s4, s5, s6, s7, s8, s9, s10, s11, s12, s13, s14, s15, s16, s17, s18, s19, s20, s21, s22, s23, s24, s25, s26, s27, s28, s29, s30, s31, s32, s33, s34, s35, s36, s37, s38, s39, s40, s41, s42, s43, s44, s45, s46, s47, s48, s49, s50, s51, s52, s53, s54, s55, s56, s57, s58, s59, s60, s61, s62, s63, s64, s65, s66, s67, s68, s69, s70, s71, s72, s73, s74, s75, s76, s77, s78, s79, s80, s81, s82, s83, s84, s85, s86, s87, s88, s89, s90, s91, s92, s93, s94, s95, s96, s97, s98, s99, s100, s101, s102, s103, s104, s105, s106, s107, s108, s109, s110, s111, s112, s113, s114, s115, s116, s117, s118, s119, s120, s121, s122, s123, s124, s125, s126, s127, s128, s129, s130, s131, s132, s133, s134, s135, s136, s137, s138, s139, s140, s141, s142, s143, s144, s145, s146, s147, s148, s149, s150, s151, s152, s153, s154, s155, s156, s157, s158, s159, s160, s161, s162, s163, s164, s165, s166, s167, s168, s169, s170, s171, s172, s173, s174, s175, s176, s177, s178, s179, s180, s181, s182, s183, s184, s185, s186, s187, s188, s189, s190, s191, s192, s193, s194, s195, s196, s197, s198, s199, s200, s201, s202, s203, s204, s205, s206, s207, s208, s209, s210, s211, s212, s213, s214, s215, s216, s217, s218, s219, s220, s221, s222, s223, s224, s225, s226, s227, s228, s229, s230, s231, s232, s233, s234, s235, s236, s237, s238, s239, s240, s241, s242, s243, s244, s245, s246, s247, s248, s249, s250, s251, s252, s253, s254, s255]
def tT (n : Nat) : Ev := tList.getD n t0
def sT (n : Nat) : Dv := sList.getD n s0
def dO : O → Ev | .t n => tT n | .c v => kc v
def dD : Option Nat → Dv | none => dn | some n => sT n
def dPt (p : Nat × Nat × O) : Pt := ⟨p.1, p.2.1, dO p.2.2⟩
def dAr : Ar → Ari | .add => aAdd | .sub => aSub | .mul => aMul | .and => aAnd | .or => aOr | .andn => aAndn | .quo => aQuo | .rem => aRem | .shl => aShl | .shr => aShr
def dCm : Cm → Cmp | .eq => cEq | .ne => cNe | .lt => cLt | .le => cLe | .gt => cGt | .ge => cGe
def dNl : Nl → AV → (Bool → Bool) → Bool | .p => nilP | .s => nilS | .f => nilF | .i => nilI
def dKk : Kk → Ky | .i => keyI | .s => keyS | .g n => keyG n
def dN : Option O → Nv | none => n_no | some x => n_of (dO x)
def dP : DP → Pv
  | .mv x => p_mv (dO x) | .pick c a b => p_pick (dO c) (dO a) (dO b) | .bld z ps => p_bld z (ps.map dPt) | .nc t x => p_nc t (dO x)
  | .ar .shl x y => p_sh aShl (dO x) (dO y) | .ar .shr x y => p_sh aShr (dO x) (dO y)
  | .ar a x y => p_ar (dAr a) (dO x) (dO y) | .cm a x y => p_cm (dCm a) (dO x) (dO y) | .eqb b x y => p_eqb b (dO x) (dO y) | .eqst b x y => p_eqst b (dO x) (dO y)
  | .nil a b x => p_nil (dNl a) b (dO x) | .no x => p_no (dO x) | .neg x => p_neg (dO x) | .cv k x => p_cv k (dO x) | .mi t x => p_mi t (dO x) | .mf f a b => p_mf f (a.map dO) (b.map dO)
  | .fa a b x => p_fa a b (dO x) | .fld a x => p_fld a (dO x) | .flds a b x => p_flds a b (dO x) | .ixs s x i => p_ixs s (dO x) (dO i) | .ixa n s x i => p_ixa n s (dO x) (dO i) | .ixv n x i => p_ixv n (dO x) (dO i)
  | .ta a b x => p_ta a b (dO x) | .ext i x => p_ext i (dO x) | .len x => p_len (dO x) | .lens x => p_lens (dO x) | .max x y => p_max (dO x) (dO y) | .min x y => p_min (dO x) (dO y)
  | .slc s x a b c => p_slc s (dO x) (dN a) (dN b) (dN c) | .sx x i => p_sx (dO x) (dO i) | .bad => p_bad
def dR : DR → Rd
  | .ld x => r_ld (dO x) | .ldn n x => r_ldn n (dO x) | .b2s x => r_b2s (dO x) | .lk false k z x y => r_lk (dKk k) z (dO x) (dO y) | .lk true k z x y => r_lkok (dKk k) z (dO x) (dO y) | .ml x => r_ml (dO x) | .up x => r_up (dO x)
def dM : DM → Mk
  | .al s z => m_al s z | .bx s x => m_bx s (dO x) | .bsl s n z ps => m_bsl s n z (ps.map dPt) | .mks s z a b => m_mks s z (dO a) (dO b)
def dA : DA → Ac
  | .st x v => a_st (dO x) (dO v) | .stn n x v => a_stn n (dO x) (dO v) | .mkb x => a_mkb (dO x) | .app s x y => a_app s (dO x) (dO y) | .mkm => a_mkm | .mu k x y v => a_mu (dKk k) (dO x) (dO y) (dO v) | .del k x y => a_del (dKk k) (dO x) (dO y)
  | .rgs x => a_rgs (dO x) | .nxs x => a_nxs (dO x) | .call f xs => a_call f (xs.map dO) | .callv x xs => a_callv (dO x) (xs.map dO) | .inv t x xs => a_inv t (dO x) (xs.map dO)
def dU (d : Dv) : DOp → Run
  | .p x => uP d (dP x) | .r x => uR d (dR x) | .m x => uM d (dM x) | .a x => uA d (dA x)
def dIo (x : DIo) : Run := match x.g with | none => dU (dD x.d) x.op | some (t, b) => uG (tT t) b (dD x.d) (dU (dD x.d) x.op)
def dGq (g : Option (Nat × Bool)) (d : Dv) (r : DRun) : DRun := match g with | none => r | some (t, b) => qG (tT t) b d r
def dDI (x : DDI) : DRun := match x.io.op with
  | .p _ => q0 (dIo x.io) | .a _ => qA (dIo x.io)
  | .r r => dGq x.io.g (dD x.io.d) (qR x.rep (dD x.io.d) (dR r)) | .m m => dGq x.io.g (dD x.io.d) (qM x.rep (dD x.io.d) (dM m))
def dC : DC → IC
  | .skip => .skip | .ops l => .ops (l.map dIo) | .draw l => .draw (l.map dDI) | .seq a b => .seq (dC a) (dC b) | .cond c a b => .cond (dO c) (dC a) (dC b)
  | .block i b => .block i (dC b) | .loop b => .loop (dC b) | .exit i => .exit i | .ret => .ret
def dV : DV → Rd | .t n => r_t (tT n) | .c n none => r_ld (tT n) | .c n (some k) => r_ldn k (tT n)
def dF (f : DF) : FE := .code ((List.range f.np).map sT) (dC f.body) (f.res.map dV)

/-! the places -/
def N8.g {α : Type} (x : N8 α) : Nat → α | 0 => x.a0 | 1 => x.a1 | 2 => x.a2 | 3 => x.a3 | 4 => x.a4 | 5 => x.a5 | 6 => x.a6 | _ => x.a7
def N8.p {α : Type} (x : N8 α) (v : α) : Nat → N8 α
  | 0 => ⟨v, x.a1, x.a2, x.a3, x.a4, x.a5, x.a6, x.a7⟩ | 1 => ⟨x.a0, v, x.a2, x.a3, x.a4, x.a5, x.a6, x.a7⟩ | 2 => ⟨x.a0, x.a1, v, x.a3, x.a4, x.a5, x.a6, x.a7⟩ | 3 => ⟨x.a0, x.a1, x.a2, v, x.a4, x.a5, x.a6, x.a7⟩
  | 4 => ⟨x.a0, x.a1, x.a2, x.a3, v, x.a5, x.a6, x.a7⟩ | 5 => ⟨x.a0, x.a1, x.a2, x.a3, x.a4, v, x.a6, x.a7⟩ | 6 => ⟨x.a0, x.a1, x.a2, x.a3, x.a4, x.a5, v, x.a7⟩ | _ => ⟨x.a0, x.a1, x.a2, x.a3, x.a4, x.a5, x.a6, v⟩
def N4.g {α : Type} (x : N4 α) : Nat → α | 0 => x.a0 | 1 => x.a1 | 2 => x.a2 | _ => x.a3
def N4.p {α : Type} (x : N4 α) (v : α) : Nat → N4 α
  | 0 => ⟨v, x.a1, x.a2, x.a3⟩ | 1 => ⟨x.a0, v, x.a2, x.a3⟩ | 2 => ⟨x.a0, x.a1, v, x.a3⟩ | _ => ⟨x.a0, x.a1, x.a2, v⟩
theorem N8.g_p {α : Type} (x : N8 α) (v : α) (i j : Nat) (hi : i < 8) (hj : j < 8) : (x.p v i).g j = if j = i then v else x.g j := by
  obtain rfl | rfl | rfl | rfl | rfl | rfl | rfl | rfl : i = 0 ∨ i = 1 ∨ i = 2 ∨ i = 3 ∨ i = 4 ∨ i = 5 ∨ i = 6 ∨ i = 7 := by omega
  all_goals (obtain rfl | rfl | rfl | rfl | rfl | rfl | rfl | rfl : j = 0 ∨ j = 1 ∨ j = 2 ∨ j = 3 ∨ j = 4 ∨ j = 5 ∨ j = 6 ∨ j = 7 := by omega) <;> rfl
theorem N4.g_p {α : Type} (x : N4 α) (v : α) (i j : Nat) (hi : i < 4) (hj : j < 4) : (x.p v i).g j = if j = i then v else x.g j := by
  obtain rfl | rfl | rfl | rfl : i = 0 ∨ i = 1 ∨ i = 2 ∨ i = 3 := by omega
  all_goals (obtain rfl | rfl | rfl | rfl : j = 0 ∨ j = 1 ∨ j = 2 ∨ j = 3 := by omega) <;> rfl
def Env.at (e : Env) (n : Nat) : AV := ((N8.g e (n / 32)).g (n / 4 % 8)).g (n % 4)
def Env.put (e : Env) (n : Nat) (v : AV) : Env := N8.p e (N8.p (N8.g e (n / 32)) (N4.p ((N8.g e (n / 32)).g (n / 4 % 8)) v (n % 4)) (n / 4 % 8)) (n / 32)
theorem Env.at_put (e : Env) (n m : Nat) (v : AV) (hn : n < 256) (hm : m < 256) : Env.at (Env.put e n v) m = if m = n then v else Env.at e m := by
  unfold Env.at Env.put
  rw [N8.g_p _ _ _ _ (by omega) (by omega)]
  by_cases e1 : m / 32 = n / 32
  · rw [if_pos e1, N8.g_p _ _ _ _ (by omega) (by omega)]
    by_cases e2 : m / 4 % 8 = n / 4 % 8
    · rw [if_pos e2, N4.g_p _ _ _ _ (by omega) (by omega)]
      by_cases e3 : m % 4 = n % 4
      · have : m = n := by omega
        rw [if_pos e3, if_pos this]
      · have : m ≠ n := by omega
        rw [if_neg e3, if_neg this, e1, e2]
    · have : m ≠ n := by omega
      rw [if_neg e2, if_neg this, e1]
  · have : m ≠ n := by omega
    rw [if_neg e1, if_neg this]

theorem tAll : ∀ n, n < 256 → tT n = fun e => Env.at e n
  | 0, _ => rfl
  | 1, _ => rfl
  | 2, _ => rfl
  | 3, _ => rfl
  | 4, _ => rfl
  | 5, _ => rfl
  | 6, _ => rfl
  | 7, _ => rfl
  | 8, _ => rfl
  | 9, _ => rfl
  | 10, _ => rfl
  | 11, _ => rfl
  | 12, _ => rfl
  | 13, _ => rfl
  | 14, _ => rfl
  | 15, _ => rfl
  | 16, _ => rfl
  | 17, _ => rfl
  | 18, _ => rfl
  | 19, _ => rfl
  | 20, _ => rfl
  | 21, _ => rfl
  | 22, _ => rfl
  | 23, _ => rfl
  | 24, _ => rfl
  | 25, _ => rfl
  | 26, _ => rfl
  | 27, _ => rfl
  | 28, _ => rfl
  | 29, _ => rfl
  | 30, _ => rfl
  | 31, _ => rfl
  | 32, _ => rfl
  | 33, _ => rfl
  | 34, _ => rfl
  | 35, _ => rfl
  | 36, _ => rfl
  | 37, _ => rfl
  | 38, _ => rfl
  | 39, _ => rfl
  | 40, _ => rfl
  | 41, _ => rfl
  | 42, _ => rfl
  | 43, _ => rfl
  | 44, _ => rfl
  | 45, _ => rfl
  | 46, _ => rfl
  | 47, _ => rfl
  | 48, _ => rfl
  | 49, _ => rfl
  | 50, _ => rfl
  | 51, _ => rfl
  | 52, _ => rfl
  | 53, _ => rfl
  | 54, _ => rfl
  | 55, _ => rfl
  | 56, _ => rfl
  | 57, _ => rfl
  | 58, _ => rfl
  | 59, _ => rfl
  | 60, _ => rfl
  | 61, _ => rfl
  | 62, _ => rfl
  | 63, _ => rfl
  | 64, _ => rfl
  | 65, _ => rfl
  | 66, _ => rfl
  | 67, _ => rfl
  | 68, _ => rfl
  | 69, _ => rfl
  | 70, _ => rfl
  | 71, _ => rfl
  | 72, _ => rfl
  | 73, _ => rfl
  | 74, _ => rfl
  | 75, _ => rfl
  | 76, _ => rfl
  | 77, _ => rfl
  | 78, _ => rfl
  | 79, _ => rfl
  | 80, _ => rfl
  | 81, _ => rfl
  | 82, _ => rfl
  | 83, _ => rfl
  | 84, _ => rfl
  | 85, _ => rfl
  | 86, _ => rfl
  | 87, _ => rfl
  | 88, _ => rfl
  | 89, _ => rfl
  | 90, _ => rfl
  | 91, _ => rfl
  | 92, _ => rfl
  | 93, _ => rfl
  | 94, _ => rfl
  | 95, _ => rfl
  | 96, _ => rfl
  | 97, _ => rfl
  | 98, _ => rfl
  | 99, _ => rfl
  | 100, _ => rfl
  | 101, _ => rfl
  | 102, _ => rfl
  | 103, _ => rfl
  | 104, _ => rfl
  | 105, _ => rfl
  | 106, _ => rfl
  | 107, _ => rfl
  | 108, _ => rfl
  | 109, _ => rfl
  | 110, _ => rfl
  | 111, _ => rfl
  | 112, _ => rfl
  | 113, _ => rfl
  | 114, _ => rfl
  | 115, _ => rfl
  | 116, _ => rfl
  | 117, _ => rfl
  | 118, _ => rfl
  | 119, _ => rfl
  | 120, _ => rfl
  | 121, _ => rfl
  | 122, _ => rfl
  | 123, _ => rfl
  | 124, _ => rfl
  | 125, _ => rfl
  | 126, _ => rfl
  | 127, _ => rfl
  | 128, _ => rfl
  | 129, _ => rfl
  | 130, _ => rfl
  | 131, _ => rfl
  | 132, _ => rfl
  | 133, _ => rfl
  | 134, _ => rfl
  | 135, _ => rfl
  | 136, _ => rfl
  | 137, _ => rfl
  | 138, _ => rfl
  | 139, _ => rfl
  | 140, _ => rfl
  | 141, _ => rfl
  | 142, _ => rfl
  | 143, _ => rfl
  | 144, _ => rfl
  | 145, _ => rfl
  | 146, _ => rfl
  | 147, _ => rfl
  | 148, _ => rfl
  | 149, _ => rfl
  | 150, _ => rfl
  | 151, _ => rfl
  | 152, _ => rfl
  | 153, _ => rfl
  | 154, _ => rfl
  | 155, _ => rfl
  | 156, _ => rfl
  | 157, _ => rfl
  | 158, _ => rfl
  | 159, _ => rfl
  | 160, _ => rfl
  | 161, _ => rfl
  | 162, _ => rfl
  | 163, _ => rfl
  | 164, _ => rfl
  | 165, _ => rfl
  | 166, _ => rfl
  | 167, _ => rfl
  | 168, _ => rfl
  | 169, _ => rfl
  | 170, _ => rfl
  | 171, _ => rfl
  | 172, _ => rfl
  | 173, _ => rfl
  | 174, _ => rfl
  | 175, _ => rfl
  | 176, _ => rfl
  | 177, _ => rfl
  | 178, _ => rfl
  | 179, _ => rfl
  | 180, _ => rfl
  | 181, _ => rfl
  | 182, _ => rfl
  | 183, _ => rfl
  | 184, _ => rfl
  | 185, _ => rfl
  | 186, _ => rfl
  | 187, _ => rfl
  | 188, _ => rfl
  | 189, _ => rfl
  | 190, _ => rfl
  | 191, _ => rfl
  | 192, _ => rfl
  | 193, _ => rfl
  | 194, _ => rfl
  | 195, _ => rfl
  | 196, _ => rfl
  | 197, _ => rfl
  | 198, _ => rfl
  | 199, _ => rfl
  | 200, _ => rfl
  | 201, _ => rfl
  | 202, _ => rfl
  | 203, _ => rfl
  | 204, _ => rfl
  | 205, _ => rfl
  | 206, _ => rfl
  | 207, _ => rfl
  | 208, _ => rfl
  | 209, _ => rfl
  | 210, _ => rfl
  | 211, _ => rfl
  | 212, _ => rfl
  | 213, _ => rfl
  | 214, _ => rfl
  | 215, _ => rfl
  | 216, _ => rfl
  | 217, _ => rfl
  | 218, _ => rfl
  | 219, _ => rfl
  | 220, _ => rfl
  | 221, _ => rfl
  | 222, _ => rfl
  | 223, _ => rfl
  | 224, _ => rfl
  | 225, _ => rfl
  | 226, _ => rfl
  | 227, _ => rfl
  | 228, _ => rfl
  | 229, _ => rfl
  | 230, _ => rfl
  | 231, _ => rfl
  | 232, _ => rfl
  | 233, _ => rfl
  | 234, _ => rfl
  | 235, _ => rfl
  | 236, _ => rfl
  | 237, _ => rfl
  | 238, _ => rfl
  | 239, _ => rfl
  | 240, _ => rfl
  | 241, _ => rfl
  | 242, _ => rfl
  | 243, _ => rfl
  | 244, _ => rfl
  | 245, _ => rfl
  | 246, _ => rfl
  | 247, _ => rfl
  | 248, _ => rfl
  | 249, _ => rfl
  | 250, _ => rfl
  | 251, _ => rfl
  | 252, _ => rfl
  | 253, _ => rfl
  | 254, _ => rfl
  | 255, _ => rfl
  | n + 256, h => by omega
theorem sAll : ∀ n, n < 256 → sT n = fun v e k => k (Env.put e n v)
  | 0, _ => rfl
  | 1, _ => rfl
  | 2, _ => rfl
  | 3, _ => rfl
  | 4, _ => rfl
  | 5, _ => rfl
  | 6, _ => rfl
  | 7, _ => rfl
  | 8, _ => rfl
  | 9, _ => rfl
  | 10, _ => rfl
  | 11, _ => rfl
  | 12, _ => rfl
  | 13, _ => rfl
  | 14, _ => rfl
  | 15, _ => rfl
  | 16, _ => rfl
  | 17, _ => rfl
  | 18, _ => rfl
  | 19, _ => rfl
  | 20, _ => rfl
  | 21, _ => rfl
  | 22, _ => rfl
  | 23, _ => rfl
  | 24, _ => rfl
  | 25, _ => rfl
  | 26, _ => rfl
  | 27, _ => rfl
  | 28, _ => rfl
  | 29, _ => rfl
  | 30, _ => rfl
  | 31, _ => rfl
  | 32, _ => rfl
  | 33, _ => rfl
  | 34, _ => rfl
  | 35, _ => rfl
  | 36, _ => rfl
  | 37, _ => rfl
  | 38, _ => rfl
  | 39, _ => rfl
  | 40, _ => rfl
  | 41, _ => rfl
  | 42, _ => rfl
  | 43, _ => rfl
  | 44, _ => rfl
  | 45, _ => rfl
  | 46, _ => rfl
  | 47, _ => rfl
  | 48, _ => rfl
  | 49, _ => rfl
  | 50, _ => rfl
  | 51, _ => rfl
  | 52, _ => rfl
  | 53, _ => rfl
  | 54, _ => rfl
  | 55, _ => rfl
  | 56, _ => rfl
  | 57, _ => rfl
  | 58, _ => rfl
  | 59, _ => rfl
  | 60, _ => rfl
  | 61, _ => rfl
  | 62, _ => rfl
  | 63, _ => rfl
  | 64, _ => rfl
  | 65, _ => rfl
  | 66, _ => rfl
  | 67, _ => rfl
  | 68, _ => rfl
  | 69, _ => rfl
  | 70, _ => rfl
  | 71, _ => rfl
  | 72, _ => rfl
  | 73, _ => rfl
  | 74, _ => rfl
  | 75, _ => rfl
  | 76, _ => rfl
  | 77, _ => rfl
  | 78, _ => rfl
  | 79, _ => rfl
  | 80, _ => rfl
  | 81, _ => rfl
  | 82, _ => rfl
  | 83, _ => rfl
  | 84, _ => rfl
  | 85, _ => rfl
  | 86, _ => rfl
  | 87, _ => rfl
  | 88, _ => rfl
  | 89, _ => rfl
  | 90, _ => rfl
  | 91, _ => rfl
  | 92, _ => rfl
  | 93, _ => rfl
  | 94, _ => rfl
  | 95, _ => rfl
  | 96, _ => rfl
  | 97, _ => rfl
  | 98, _ => rfl
  | 99, _ => rfl
  | 100, _ => rfl
  | 101, _ => rfl
  | 102, _ => rfl
  | 103, _ => rfl
  | 104, _ => rfl
  | 105, _ => rfl
  | 106, _ => rfl
  | 107, _ => rfl
  | 108, _ => rfl
  | 109, _ => rfl
  | 110, _ => rfl
  | 111, _ => rfl
  | 112, _ => rfl
  | 113, _ => rfl
  | 114, _ => rfl
  | 115, _ => rfl
  | 116, _ => rfl
  | 117, _ => rfl
  | 118, _ => rfl
  | 119, _ => rfl
  | 120, _ => rfl
  | 121, _ => rfl
  | 122, _ => rfl
  | 123, _ => rfl
  | 124, _ => rfl
  | 125, _ => rfl
  | 126, _ => rfl
  | 127, _ => rfl
  | 128, _ => rfl
  | 129, _ => rfl
  | 130, _ => rfl
  | 131, _ => rfl
  | 132, _ => rfl
  | 133, _ => rfl
  | 134, _ => rfl
  | 135, _ => rfl
  | 136, _ => rfl
  | 137, _ => rfl
  | 138, _ => rfl
  | 139, _ => rfl
  | 140, _ => rfl
  | 141, _ => rfl
  | 142, _ => rfl
  | 143, _ => rfl
  | 144, _ => rfl
  | 145, _ => rfl
  | 146, _ => rfl
  | 147, _ => rfl
  | 148, _ => rfl
  | 149, _ => rfl
  | 150, _ => rfl
  | 151, _ => rfl
  | 152, _ => rfl
  | 153, _ => rfl
  | 154, _ => rfl
  | 155, _ => rfl
  | 156, _ => rfl
  | 157, _ => rfl
  | 158, _ => rfl
  | 159, _ => rfl
  | 160, _ => rfl
  | 161, _ => rfl
  | 162, _ => rfl
  | 163, _ => rfl
  | 164, _ => rfl
  | 165, _ => rfl
  | 166, _ => rfl
  | 167, _ => rfl
  | 168, _ => rfl
  | 169, _ => rfl
  | 170, _ => rfl
  | 171, _ => rfl
  | 172, _ => rfl
  | 173, _ => rfl
  | 174, _ => rfl
  | 175, _ => rfl
  | 176, _ => rfl
  | 177, _ => rfl
  | 178, _ => rfl
  | 179, _ => rfl
  | 180, _ => rfl
  | 181, _ => rfl
  | 182, _ => rfl
  | 183, _ => rfl
  | 184, _ => rfl
  | 185, _ => rfl
  | 186, _ => rfl
  | 187, _ => rfl
  | 188, _ => rfl
  | 189, _ => rfl
  | 190, _ => rfl
  | 191, _ => rfl
  | 192, _ => rfl
  | 193, _ => rfl
  | 194, _ => rfl
  | 195, _ => rfl
  | 196, _ => rfl
  | 197, _ => rfl
  | 198, _ => rfl
  | 199, _ => rfl
  | 200, _ => rfl
  | 201, _ => rfl
  | 202, _ => rfl
  | 203, _ => rfl
  | 204, _ => rfl
  | 205, _ => rfl
  | 206, _ => rfl
  | 207, _ => rfl
  | 208, _ => rfl
  | 209, _ => rfl
  | 210, _ => rfl
  | 211, _ => rfl
  | 212, _ => rfl
  | 213, _ => rfl
  | 214, _ => rfl
  | 215, _ => rfl
  | 216, _ => rfl
  | 217, _ => rfl
  | 218, _ => rfl
  | 219, _ => rfl
  | 220, _ => rfl
  | 221, _ => rfl
  | 222, _ => rfl
  | 223, _ => rfl
  | 224, _ => rfl
  | 225, _ => rfl
  | 226, _ => rfl
  | 227, _ => rfl
  | 228, _ => rfl
  | 229, _ => rfl
  | 230, _ => rfl
  | 231, _ => rfl
  | 232, _ => rfl
  | 233, _ => rfl
  | 234, _ => rfl
  | 235, _ => rfl
  | 236, _ => rfl
  | 237, _ => rfl
  | 238, _ => rfl
  | 239, _ => rfl
  | 240, _ => rfl
  | 241, _ => rfl
  | 242, _ => rfl
  | 243, _ => rfl
  | 244, _ => rfl
  | 245, _ => rfl
  | 246, _ => rfl
  | 247, _ => rfl
  | 248, _ => rfl
  | 249, _ => rfl
  | 250, _ => rfl
  | 251, _ => rfl
  | 252, _ => rfl
  | 253, _ => rfl
  | 254, _ => rfl
  | 255, _ => rfl
  | n + 256, h => by omega
end Go.Proofs.YtfiambjmphjjgaaGreatDoor.Ms
