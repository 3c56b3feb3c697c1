/- Part of a proof: a checked evaluator of the program (the evaluator: numbers, values, operations). No condition. -/
import Derived.Test.YtfiambjmphjjgaaGreatDoorMsEv
noncomputable section
namespace Go.Proofs.YtfiambjmphjjgaaGreatDoor.Ms
set_option linter.unusedVariables false
set_option linter.unusedSimpArgs false
def t0 : Ev := fun e => N4.a0 (N8.a0 (N8.a0 e))
def t1 : Ev := fun e => N4.a1 (N8.a0 (N8.a0 e))
def t2 : Ev := fun e => N4.a2 (N8.a0 (N8.a0 e))
def t3 : Ev := fun e => N4.a3 (N8.a0 (N8.a0 e))
def t4 : Ev := fun e => N4.a0 (N8.a1 (N8.a0 e))
def t5 : Ev := fun e => N4.a1 (N8.a1 (N8.a0 e))
def t6 : Ev := fun e => N4.a2 (N8.a1 (N8.a0 e))
def t7 : Ev := fun e => N4.a3 (N8.a1 (N8.a0 e))
def t8 : Ev := fun e => N4.a0 (N8.a2 (N8.a0 e))
def t9 : Ev := fun e => N4.a1 (N8.a2 (N8.a0 e))
def t10 : Ev := fun e => N4.a2 (N8.a2 (N8.a0 e))
def t11 : Ev := fun e => N4.a3 (N8.a2 (N8.a0 e))
def t12 : Ev := fun e => N4.a0 (N8.a3 (N8.a0 e))
def t13 : Ev := fun e => N4.a1 (N8.a3 (N8.a0 e))
def t14 : Ev := fun e => N4.a2 (N8.a3 (N8.a0 e))
def t15 : Ev := fun e => N4.a3 (N8.a3 (N8.a0 e))
def t16 : Ev := fun e => N4.a0 (N8.a4 (N8.a0 e))
def t17 : Ev := fun e => N4.a1 (N8.a4 (N8.a0 e))
def t18 : Ev := fun e => N4.a2 (N8.a4 (N8.a0 e))
def t19 : Ev := fun e => N4.a3 (N8.a4 (N8.a0 e))
def t20 : Ev := fun e => N4.a0 (N8.a5 (N8.a0 e))
def t21 : Ev := fun e => N4.a1 (N8.a5 (N8.a0 e))
def t22 : Ev := fun e => N4.a2 (N8.a5 (N8.a0 e))
def t23 : Ev := fun e => N4.a3 (N8.a5 (N8.a0 e))
def t24 : Ev := fun e => N4.a0 (N8.a6 (N8.a0 e))
def t25 : Ev := fun e => N4.a1 (N8.a6 (N8.a0 e))
def t26 : Ev := fun e => N4.a2 (N8.a6 (N8.a0 e))
def t27 : Ev := fun e => N4.a3 (N8.a6 (N8.a0 e))
def t28 : Ev := fun e => N4.a0 (N8.a7 (N8.a0 e))
def t29 : Ev := fun e => N4.a1 (N8.a7 (N8.a0 e))
def t30 : Ev := fun e => N4.a2 (N8.a7 (N8.a0 e))
def t31 : Ev := fun e => N4.a3 (N8.a7 (N8.a0 e))
def t32 : Ev := fun e => N4.a0 (N8.a0 (N8.a1 e))
def t33 : Ev := fun e => N4.a1 (N8.a0 (N8.a1 e))
def t34 : Ev := fun e => N4.a2 (N8.a0 (N8.a1 e))
def t35 : Ev := fun e => N4.a3 (N8.a0 (N8.a1 e))
def t36 : Ev := fun e => N4.a0 (N8.a1 (N8.a1 e))
def t37 : Ev := fun e => N4.a1 (N8.a1 (N8.a1 e))
def t38 : Ev := fun e => N4.a2 (N8.a1 (N8.a1 e))
def t39 : Ev := fun e => N4.a3 (N8.a1 (N8.a1 e))
def t40 : Ev := fun e => N4.a0 (N8.a2 (N8.a1 e))
def t41 : Ev := fun e => N4.a1 (N8.a2 (N8.a1 e))
def t42 : Ev := fun e => N4.a2 (N8.a2 (N8.a1 e))
def t43 : Ev := fun e => N4.a3 (N8.a2 (N8.a1 e))
def t44 : Ev := fun e => N4.a0 (N8.a3 (N8.a1 e))
def t45 : Ev := fun e => N4.a1 (N8.a3 (N8.a1 e))
def t46 : Ev := fun e => N4.a2 (N8.a3 (N8.a1 e))
def t47 : Ev := fun e => N4.a3 (N8.a3 (N8.a1 e))
def t48 : Ev := fun e => N4.a0 (N8.a4 (N8.a1 e))
def t49 : Ev := fun e => N4.a1 (N8.a4 (N8.a1 e))
def t50 : Ev := fun e => N4.a2 (N8.a4 (N8.a1 e))
def t51 : Ev := fun e => N4.a3 (N8.a4 (N8.a1 e))
def t52 : Ev := fun e => N4.a0 (N8.a5 (N8.a1 e))
def t53 : Ev := fun e => N4.a1 (N8.a5 (N8.a1 e))
def t54 : Ev := fun e => N4.a2 (N8.a5 (N8.a1 e))
def t55 : Ev := fun e => N4.a3 (N8.a5 (N8.a1 e))
def t56 : Ev := fun e => N4.a0 (N8.a6 (N8.a1 e))
def t57 : Ev := fun e => N4.a1 (N8.a6 (N8.a1 e))
def t58 : Ev := fun e => N4.a2 (N8.a6 (N8.a1 e))
def t59 : Ev := fun e => N4.a3 (N8.a6 (N8.a1 e))
def t60 : Ev := fun e => N4.a0 (N8.a7 (N8.a1 e))
def t61 : Ev := fun e => N4.a1 (N8.a7 (N8.a1 e))
def t62 : Ev := fun e => N4.a2 (N8.a7 (N8.a1 e))
def t63 : Ev := fun e => N4.a3 (N8.a7 (N8.a1 e))
def t64 : Ev := fun e => N4.a0 (N8.a0 (N8.a2 e))
def t65 : Ev := fun e => N4.a1 (N8.a0 (N8.a2 e))
def t66 : Ev := fun e => N4.a2 (N8.a0 (N8.a2 e))
def t67 : Ev := fun e => N4.a3 (N8.a0 (N8.a2 e))
def t68 : Ev := fun e => N4.a0 (N8.a1 (N8.a2 e))
def t69 : Ev := fun e => N4.a1 (N8.a1 (N8.a2 e))
def t70 : Ev := fun e => N4.a2 (N8.a1 (N8.a2 e))
def t71 : Ev := fun e => N4.a3 (N8.a1 (N8.a2 e))
def t72 : Ev := fun e => N4.a0 (N8.a2 (N8.a2 e))
def t73 : Ev := fun e => N4.a1 (N8.a2 (N8.a2 e))
def t74 : Ev := fun e => N4.a2 (N8.a2 (N8.a2 e))
def t75 : Ev := fun e => N4.a3 (N8.a2 (N8.a2 e))
def t76 : Ev := fun e => N4.a0 (N8.a3 (N8.a2 e))
def t77 : Ev := fun e => N4.a1 (N8.a3 (N8.a2 e))
def t78 : Ev := fun e => N4.a2 (N8.a3 (N8.a2 e))
def t79 : Ev := fun e => N4.a3 (N8.a3 (N8.a2 e))
def t80 : Ev := fun e => N4.a0 (N8.a4 (N8.a2 e))
def t81 : Ev := fun e => N4.a1 (N8.a4 (N8.a2 e))
def t82 : Ev := fun e => N4.a2 (N8.a4 (N8.a2 e))
def t83 : Ev := fun e => N4.a3 (N8.a4 (N8.a2 e))
def t84 : Ev := fun e => N4.a0 (N8.a5 (N8.a2 e))
def t85 : Ev := fun e => N4.a1 (N8.a5 (N8.a2 e))
def t86 : Ev := fun e => N4.a2 (N8.a5 (N8.a2 e))
def t87 : Ev := fun e => N4.a3 (N8.a5 (N8.a2 e))
def t88 : Ev := fun e => N4.a0 (N8.a6 (N8.a2 e))
def t89 : Ev := fun e => N4.a1 (N8.a6 (N8.a2 e))
def t90 : Ev := fun e => N4.a2 (N8.a6 (N8.a2 e))
def t91 : Ev := fun e => N4.a3 (N8.a6 (N8.a2 e))
def t92 : Ev := fun e => N4.a0 (N8.a7 (N8.a2 e))
def t93 : Ev := fun e => N4.a1 (N8.a7 (N8.a2 e))
def t94 : Ev := fun e => N4.a2 (N8.a7 (N8.a2 e))
def t95 : Ev := fun e => N4.a3 (N8.a7 (N8.a2 e))
def t96 : Ev := fun e => N4.a0 (N8.a0 (N8.a3 e))
def t97 : Ev := fun e => N4.a1 (N8.a0 (N8.a3 e))
def t98 : Ev := fun e => N4.a2 (N8.a0 (N8.a3 e))
def t99 : Ev := fun e => N4.a3 (N8.a0 (N8.a3 e))
def t100 : Ev := fun e => N4.a0 (N8.a1 (N8.a3 e))
def t101 : Ev := fun e => N4.a1 (N8.a1 (N8.a3 e))
def t102 : Ev := fun e => N4.a2 (N8.a1 (N8.a3 e))
def t103 : Ev := fun e => N4.a3 (N8.a1 (N8.a3 e))
def t104 : Ev := fun e => N4.a0 (N8.a2 (N8.a3 e))
def t105 : Ev := fun e => N4.a1 (N8.a2 (N8.a3 e))
def t106 : Ev := fun e => N4.a2 (N8.a2 (N8.a3 e))
def t107 : Ev := fun e => N4.a3 (N8.a2 (N8.a3 e))
def t108 : Ev := fun e => N4.a0 (N8.a3 (N8.a3 e))
def t109 : Ev := fun e => N4.a1 (N8.a3 (N8.a3 e))
def t110 : Ev := fun e => N4.a2 (N8.a3 (N8.a3 e))
def t111 : Ev := fun e => N4.a3 (N8.a3 (N8.a3 e))
def t112 : Ev := fun e => N4.a0 (N8.a4 (N8.a3 e))
def t113 : Ev := fun e => N4.a1 (N8.a4 (N8.a3 e))
def t114 : Ev := fun e => N4.a2 (N8.a4 (N8.a3 e))
def t115 : Ev := fun e => N4.a3 (N8.a4 (N8.a3 e))
def t116 : Ev := fun e => N4.a0 (N8.a5 (N8.a3 e))
def t117 : Ev := fun e => N4.a1 (N8.a5 (N8.a3 e))
def t118 : Ev := fun e => N4.a2 (N8.a5 (N8.a3 e))
def t119 : Ev := fun e => N4.a3 (N8.a5 (N8.a3 e))
def t120 : Ev := fun e => N4.a0 (N8.a6 (N8.a3 e))
def t121 : Ev := fun e => N4.a1 (N8.a6 (N8.a3 e))
def t122 : Ev := fun e => N4.a2 (N8.a6 (N8.a3 e))
def t123 : Ev := fun e => N4.a3 (N8.a6 (N8.a3 e))
def t124 : Ev := fun e => N4.a0 (N8.a7 (N8.a3 e))
def t125 : Ev := fun e => N4.a1 (N8.a7 (N8.a3 e))
def t126 : Ev := fun e => N4.a2 (N8.a7 (N8.a3 e))
def t127 : Ev := fun e => N4.a3 (N8.a7 (N8.a3 e))
def t128 : Ev := fun e => N4.a0 (N8.a0 (N8.a4 e))
def t129 : Ev := fun e => N4.a1 (N8.a0 (N8.a4 e))
def t130 : Ev := fun e => N4.a2 (N8.a0 (N8.a4 e))
def t131 : Ev := fun e => N4.a3 (N8.a0 (N8.a4 e))
def t132 : Ev := fun e => N4.a0 (N8.a1 (N8.a4 e))
def t133 : Ev := fun e => N4.a1 (N8.a1 (N8.a4 e))
def t134 : Ev := fun e => N4.a2 (N8.a1 (N8.a4 e))
def t135 : Ev := fun e => N4.a3 (N8.a1 (N8.a4 e))
def t136 : Ev := fun e => N4.a0 (N8.a2 (N8.a4 e))
def t137 : Ev := fun e => N4.a1 (N8.a2 (N8.a4 e))
def t138 : Ev := fun e => N4.a2 (N8.a2 (N8.a4 e))
def t139 : Ev := fun e => N4.a3 (N8.a2 (N8.a4 e))
def t140 : Ev := fun e => N4.a0 (N8.a3 (N8.a4 e))
def t141 : Ev := fun e => N4.a1 (N8.a3 (N8.a4 e))
def t142 : Ev := fun e => N4.a2 (N8.a3 (N8.a4 e))
def t143 : Ev := fun e => N4.a3 (N8.a3 (N8.a4 e))
def t144 : Ev := fun e => N4.a0 (N8.a4 (N8.a4 e))
def t145 : Ev := fun e => N4.a1 (N8.a4 (N8.a4 e))
def t146 : Ev := fun e => N4.a2 (N8.a4 (N8.a4 e))
def t147 : Ev := fun e => N4.a3 (N8.a4 (N8.a4 e))
def t148 : Ev := fun e => N4.a0 (N8.a5 (N8.a4 e))
def t149 : Ev := fun e => N4.a1 (N8.a5 (N8.a4 e))
def t150 : Ev := fun e => N4.a2 (N8.a5 (N8.a4 e))
def t151 : Ev := fun e => N4.a3 (N8.a5 (N8.a4 e))
def t152 : Ev := fun e => N4.a0 (N8.a6 (N8.a4 e))
def t153 : Ev := fun e => N4.a1 (N8.a6 (N8.a4 e))
def t154 : Ev := fun e => N4.a2 (N8.a6 (N8.a4 e))
def t155 : Ev := fun e => N4.a3 (N8.a6 (N8.a4 e))
def t156 : Ev := fun e => N4.a0 (N8.a7 (N8.a4 e))
def t157 : Ev := fun e => N4.a1 (N8.a7 (N8.a4 e))
def t158 : Ev := fun e => N4.a2 (N8.a7 (N8.a4 e))
def t159 : Ev := fun e => N4.a3 (N8.a7 (N8.a4 e))
def t160 : Ev := fun e => N4.a0 (N8.a0 (N8.a5 e))
def t161 : Ev := fun e => N4.a1 (N8.a0 (N8.a5 e))
def t162 : Ev := fun e => N4.a2 (N8.a0 (N8.a5 e))
def t163 : Ev := fun e => N4.a3 (N8.a0 (N8.a5 e))
def t164 : Ev := fun e => N4.a0 (N8.a1 (N8.a5 e))
def t165 : Ev := fun e => N4.a1 (N8.a1 (N8.a5 e))
def t166 : Ev := fun e => N4.a2 (N8.a1 (N8.a5 e))
def t167 : Ev := fun e => N4.a3 (N8.a1 (N8.a5 e))
def t168 : Ev := fun e => N4.a0 (N8.a2 (N8.a5 e))
def t169 : Ev := fun e => N4.a1 (N8.a2 (N8.a5 e))
def t170 : Ev := fun e => N4.a2 (N8.a2 (N8.a5 e))
def t171 : Ev := fun e => N4.a3 (N8.a2 (N8.a5 e))
def t172 : Ev := fun e => N4.a0 (N8.a3 (N8.a5 e))
def t173 : Ev := fun e => N4.a1 (N8.a3 (N8.a5 e))
def t174 : Ev := fun e => N4.a2 (N8.a3 (N8.a5 e))
def t175 : Ev := fun e => N4.a3 (N8.a3 (N8.a5 e))
def t176 : Ev := fun e => N4.a0 (N8.a4 (N8.a5 e))
def t177 : Ev := fun e => N4.a1 (N8.a4 (N8.a5 e))
def t178 : Ev := fun e => N4.a2 (N8.a4 (N8.a5 e))
def t179 : Ev := fun e => N4.a3 (N8.a4 (N8.a5 e))
def t180 : Ev := fun e => N4.a0 (N8.a5 (N8.a5 e))
def t181 : Ev := fun e => N4.a1 (N8.a5 (N8.a5 e))
def t182 : Ev := fun e => N4.a2 (N8.a5 (N8.a5 e))
def t183 : Ev := fun e => N4.a3 (N8.a5 (N8.a5 e))
def t184 : Ev := fun e => N4.a0 (N8.a6 (N8.a5 e))
def t185 : Ev := fun e => N4.a1 (N8.a6 (N8.a5 e))
def t186 : Ev := fun e => N4.a2 (N8.a6 (N8.a5 e))
def t187 : Ev := fun e => N4.a3 (N8.a6 (N8.a5 e))
def t188 : Ev := fun e => N4.a0 (N8.a7 (N8.a5 e))
def t189 : Ev := fun e => N4.a1 (N8.a7 (N8.a5 e))
def t190 : Ev := fun e => N4.a2 (N8.a7 (N8.a5 e))
def t191 : Ev := fun e => N4.a3 (N8.a7 (N8.a5 e))
def t192 : Ev := fun e => N4.a0 (N8.a0 (N8.a6 e))
def t193 : Ev := fun e => N4.a1 (N8.a0 (N8.a6 e))
def t194 : Ev := fun e => N4.a2 (N8.a0 (N8.a6 e))
def t195 : Ev := fun e => N4.a3 (N8.a0 (N8.a6 e))
def t196 : Ev := fun e => N4.a0 (N8.a1 (N8.a6 e))
def t197 : Ev := fun e => N4.a1 (N8.a1 (N8.a6 e))
def t198 : Ev := fun e => N4.a2 (N8.a1 (N8.a6 e))
def t199 : Ev := fun e => N4.a3 (N8.a1 (N8.a6 e))
def t200 : Ev := fun e => N4.a0 (N8.a2 (N8.a6 e))
def t201 : Ev := fun e => N4.a1 (N8.a2 (N8.a6 e))
def t202 : Ev := fun e => N4.a2 (N8.a2 (N8.a6 e))
def t203 : Ev := fun e => N4.a3 (N8.a2 (N8.a6 e))
def t204 : Ev := fun e => N4.a0 (N8.a3 (N8.a6 e))
def t205 : Ev := fun e => N4.a1 (N8.a3 (N8.a6 e))
def t206 : Ev := fun e => N4.a2 (N8.a3 (N8.a6 e))
def t207 : Ev := fun e => N4.a3 (N8.a3 (N8.a6 e))
def t208 : Ev := fun e => N4.a0 (N8.a4 (N8.a6 e))
def t209 : Ev := fun e => N4.a1 (N8.a4 (N8.a6 e))
def t210 : Ev := fun e => N4.a2 (N8.a4 (N8.a6 e))
def t211 : Ev := fun e => N4.a3 (N8.a4 (N8.a6 e))
def t212 : Ev := fun e => N4.a0 (N8.a5 (N8.a6 e))
def t213 : Ev := fun e => N4.a1 (N8.a5 (N8.a6 e))
def t214 : Ev := fun e => N4.a2 (N8.a5 (N8.a6 e))
def t215 : Ev := fun e => N4.a3 (N8.a5 (N8.a6 e))
def t216 : Ev := fun e => N4.a0 (N8.a6 (N8.a6 e))
def t217 : Ev := fun e => N4.a1 (N8.a6 (N8.a6 e))
def t218 : Ev := fun e => N4.a2 (N8.a6 (N8.a6 e))
def t219 : Ev := fun e => N4.a3 (N8.a6 (N8.a6 e))
def t220 : Ev := fun e => N4.a0 (N8.a7 (N8.a6 e))
def t221 : Ev := fun e => N4.a1 (N8.a7 (N8.a6 e))
def t222 : Ev := fun e => N4.a2 (N8.a7 (N8.a6 e))
def t223 : Ev := fun e => N4.a3 (N8.a7 (N8.a6 e))
def t224 : Ev := fun e => N4.a0 (N8.a0 (N8.a7 e))
def t225 : Ev := fun e => N4.a1 (N8.a0 (N8.a7 e))
def t226 : Ev := fun e => N4.a2 (N8.a0 (N8.a7 e))
def t227 : Ev := fun e => N4.a3 (N8.a0 (N8.a7 e))
def t228 : Ev := fun e => N4.a0 (N8.a1 (N8.a7 e))
def t229 : Ev := fun e => N4.a1 (N8.a1 (N8.a7 e))
def t230 : Ev := fun e => N4.a2 (N8.a1 (N8.a7 e))
def t231 : Ev := fun e => N4.a3 (N8.a1 (N8.a7 e))
def t232 : Ev := fun e => N4.a0 (N8.a2 (N8.a7 e))
def t233 : Ev := fun e => N4.a1 (N8.a2 (N8.a7 e))
def t234 : Ev := fun e => N4.a2 (N8.a2 (N8.a7 e))
def t235 : Ev := fun e => N4.a3 (N8.a2 (N8.a7 e))
def t236 : Ev := fun e => N4.a0 (N8.a3 (N8.a7 e))
def t237 : Ev := fun e => N4.a1 (N8.a3 (N8.a7 e))
def t238 : Ev := fun e => N4.a2 (N8.a3 (N8.a7 e))
def t239 : Ev := fun e => N4.a3 (N8.a3 (N8.a7 e))
def t240 : Ev := fun e => N4.a0 (N8.a4 (N8.a7 e))
def t241 : Ev := fun e => N4.a1 (N8.a4 (N8.a7 e))
def t242 : Ev := fun e => N4.a2 (N8.a4 (N8.a7 e))
def t243 : Ev := fun e => N4.a3 (N8.a4 (N8.a7 e))
def t244 : Ev := fun e => N4.a0 (N8.a5 (N8.a7 e))
def t245 : Ev := fun e => N4.a1 (N8.a5 (N8.a7 e))
def t246 : Ev := fun e => N4.a2 (N8.a5 (N8.a7 e))
def t247 : Ev := fun e => N4.a3 (N8.a5 (N8.a7 e))
def t248 : Ev := fun e => N4.a0 (N8.a6 (N8.a7 e))
def t249 : Ev := fun e => N4.a1 (N8.a6 (N8.a7 e))
def t250 : Ev := fun e => N4.a2 (N8.a6 (N8.a7 e))
def t251 : Ev := fun e => N4.a3 (N8.a6 (N8.a7 e))
def t252 : Ev := fun e => N4.a0 (N8.a7 (N8.a7 e))
def t253 : Ev := fun e => N4.a1 (N8.a7 (N8.a7 e))
def t254 : Ev := fun e => N4.a2 (N8.a7 (N8.a7 e))
def t255 : Ev := fun e => N4.a3 (N8.a7 (N8.a7 e))
def s0 : Dv := fun v e k => N8.rec (fun z0 z1 z2 z3 z4 z5 z6 z7 => N8.rec (fun y0 y1 y2 y3 y4 y5 y6 y7 => N4.rec (fun x0 x1 x2 x3 => k ⟨⟨⟨v, x1, x2, x3⟩, y1, y2, y3, y4, y5, y6, y7⟩, z1, z2, z3, z4, z5, z6, z7⟩) y0) z0) e
def s1 : Dv := fun v e k => N8.rec (fun z0 z1 z2 z3 z4 z5 z6 z7 => N8.rec (fun y0 y1 y2 y3 y4 y5 y6 y7 => N4.rec (fun x0 x1 x2 x3 => k ⟨⟨⟨x0, v, x2, x3⟩, y1, y2, y3, y4, y5, y6, y7⟩, z1, z2, z3, z4, z5, z6, z7⟩) y0) z0) e
def s2 : Dv := fun v e k => N8.rec (fun z0 z1 z2 z3 z4 z5 z6 z7 => N8.rec (fun y0 y1 y2 y3 y4 y5 y6 y7 => N4.rec (fun x0 x1 x2 x3 => k ⟨⟨⟨x0, x1, v, x3⟩, y1, y2, y3, y4, y5, y6, y7⟩, z1, z2, z3, z4, z5, z6, z7⟩) y0) z0) e
def s3 : Dv := fun v e k => N8.rec (fun z0 z1 z2 z3 z4 z5 z6 z7 => N8.rec (fun y0 y1 y2 y3 y4 y5 y6 y7 => N4.rec (fun x0 x1 x2 x3 => k ⟨⟨⟨x0, x1, x2, v⟩, y1, y2, y3, y4, y5, y6, y7⟩, z1, z2, z3, z4, z5, z6, z7⟩) y0) z0) e
def s4 : Dv := fun v e k => N8.rec (fun z0 z1 z2 z3 z4 z5 z6 z7 => N8.rec (fun y0 y1 y2 y3 y4 y5 y6 y7 => N4.rec (fun x0 x1 x2 x3 => k ⟨⟨y0, ⟨v, x1, x2, x3⟩, y2, y3, y4, y5, y6, y7⟩, z1, z2, z3, z4, z5, z6, z7⟩) y1) z0) e
def s5 : Dv := fun v e k => N8.rec (fun z0 z1 z2 z3 z4 z5 z6 z7 => N8.rec (fun y0 y1 y2 y3 y4 y5 y6 y7 => N4.rec (fun x0 x1 x2 x3 => k ⟨⟨y0, ⟨x0, v, x2, x3⟩, y2, y3, y4, y5, y6, y7⟩, z1, z2, z3, z4, z5, z6, z7⟩) y1) z0) e
def s6 : Dv := fun v e k => N8.rec (fun z0 z1 z2 z3 z4 z5 z6 z7 => N8.rec (fun y0 y1 y2 y3 y4 y5 y6 y7 => N4.rec (fun x0 x1 x2 x3 => k ⟨⟨y0, ⟨x0, x1, v, x3⟩, y2, y3, y4, y5, y6, y7⟩, z1, z2, z3, z4, z5, z6, z7⟩) y1) z0) e
def s7 : Dv := fun v e k => N8.rec (fun z0 z1 z2 z3 z4 z5 z6 z7 => N8.rec (fun y0 y1 y2 y3 y4 y5 y6 y7 => N4.rec (fun x0 x1 x2 x3 => k ⟨⟨y0, ⟨x0, x1, x2, v⟩, y2, y3, y4, y5, y6, y7⟩, z1, z2, z3, z4, z5, z6, z7⟩) y1) z0) e
def s8 : Dv := fun v e k => N8.rec (fun z0 z1 z2 z3 z4 z5 z6 z7 => N8.rec (fun y0 y1 y2 y3 y4 y5 y6 y7 => N4.rec (fun x0 x1 x2 x3 => k ⟨⟨y0, y1, ⟨v, x1, x2, x3⟩, y3, y4, y5, y6, y7⟩, z1, z2, z3, z4, z5, z6, z7⟩) y2) z0) e
def s9 : Dv := fun v e k => N8.rec (fun z0 z1 z2 z3 z4 z5 z6 z7 => N8.rec (fun y0 y1 y2 y3 y4 y5 y6 y7 => N4.rec (fun x0 x1 x2 x3 => k ⟨⟨y0, y1, ⟨x0, v, x2, x3⟩, y3, y4, y5, y6, y7⟩, z1, z2, z3, z4, z5, z6, z7⟩) y2) z0) e
def s10 : Dv := fun v e k => N8.rec (fun z0 z1 z2 z3 z4 z5 z6 z7 => N8.rec (fun y0 y1 y2 y3 y4 y5 y6 y7 => N4.rec (fun x0 x1 x2 x3 => k ⟨⟨y0, y1, ⟨x0, x1, v, x3⟩, y3, y4, y5, y6, y7⟩, z1, z2, z3, z4, z5, z6, z7⟩) y2) z0) e
def s11 : Dv := fun v e k => N8.rec (fun z0 z1 z2 z3 z4 z5 z6 z7 => N8.rec (fun y0 y1 y2 y3 y4 y5 y6 y7 => N4.rec (fun x0 x1 x2 x3 => k ⟨⟨y0, y1, ⟨x0, x1, x2, v⟩, y3, y4, y5, y6, y7⟩, z1, z2, z3, z4, z5, z6, z7⟩) y2) z0) e
def s12 : Dv := fun v e k => N8.rec (fun z0 z1 z2 z3 z4 z5 z6 z7 => N8.rec (fun y0 y1 y2 y3 y4 y5 y6 y7 => N4.rec (fun x0 x1 x2 x3 => k ⟨⟨y0, y1, y2, ⟨v, x1, x2, x3⟩, y4, y5, y6, y7⟩, z1, z2, z3, z4, z5, z6, z7⟩) y3) z0) e
def s13 : Dv := fun v e k => N8.rec (fun z0 z1 z2 z3 z4 z5 z6 z7 => N8.rec (fun y0 y1 y2 y3 y4 y5 y6 y7 => N4.rec (fun x0 x1 x2 x3 => k ⟨⟨y0, y1, y2, ⟨x0, v, x2, x3⟩, y4, y5, y6, y7⟩, z1, z2, z3, z4, z5, z6, z7⟩) y3) z0) e
def s14 : Dv := fun v e k => N8.rec (fun z0 z1 z2 z3 z4 z5 z6 z7 => N8.rec (fun y0 y1 y2 y3 y4 y5 y6 y7 => N4.rec (fun x0 x1 x2 x3 => k ⟨⟨y0, y1, y2, ⟨x0, x1, v, x3⟩, y4, y5, y6, y7⟩, z1, z2, z3, z4, z5, z6, z7⟩) y3) z0) e
def s15 : Dv := fun v e k => N8.rec (fun z0 z1 z2 z3 z4 z5 z6 z7 => N8.rec (fun y0 y1 y2 y3 y4 y5 y6 y7 => N4.rec (fun x0 x1 x2 x3 => k ⟨⟨y0, y1, y2, ⟨x0, x1, x2, v⟩, y4, y5, y6, y7⟩, z1, z2, z3, z4, z5, z6, z7⟩) y3) z0) e
def s16 : Dv := fun v e k => N8.rec (fun z0 z1 z2 z3 z4 z5 z6 z7 => N8.rec (fun y0 y1 y2 y3 y4 y5 y6 y7 => N4.rec (fun x0 x1 x2 x3 => k ⟨⟨y0, y1, y2, y3, ⟨v, x1, x2, x3⟩, y5, y6, y7⟩, z1, z2, z3, z4, z5, z6, z7⟩) y4) z0) e
def s17 : Dv := fun v e k => N8.rec (fun z0 z1 z2 z3 z4 z5 z6 z7 => N8.rec (fun y0 y1 y2 y3 y4 y5 y6 y7 => N4.rec (fun x0 x1 x2 x3 => k ⟨⟨y0, y1, y2, y3, ⟨x0, v, x2, x3⟩, y5, y6, y7⟩, z1, z2, z3, z4, z5, z6, z7⟩) y4) z0) e
def s18 : Dv := fun v e k => N8.rec (fun z0 z1 z2 z3 z4 z5 z6 z7 => N8.rec (fun y0 y1 y2 y3 y4 y5 y6 y7 => N4.rec (fun x0 x1 x2 x3 => k ⟨⟨y0, y1, y2, y3, ⟨x0, x1, v, x3⟩, y5, y6, y7⟩, z1, z2, z3, z4, z5, z6, z7⟩) y4) z0) e
def s19 : Dv := fun v e k => N8.rec (fun z0 z1 z2 z3 z4 z5 z6 z7 => N8.rec (fun y0 y1 y2 y3 y4 y5 y6 y7 => N4.rec (fun x0 x1 x2 x3 => k ⟨⟨y0, y1, y2, y3, ⟨x0, x1, x2, v⟩, y5, y6, y7⟩, z1, z2, z3, z4, z5, z6, z7⟩) y4) z0) e
def s20 : Dv := fun v e k => N8.rec (fun z0 z1 z2 z3 z4 z5 z6 z7 => N8.rec (fun y0 y1 y2 y3 y4 y5 y6 y7 => N4.rec (fun x0 x1 x2 x3 => k ⟨⟨y0, y1, y2, y3, y4, ⟨v, x1, x2, x3⟩, y6, y7⟩, z1, z2, z3, z4, z5, z6, z7⟩) y5) z0) e
def s21 : Dv := fun v e k => N8.rec (fun z0 z1 z2 z3 z4 z5 z6 z7 => N8.rec (fun y0 y1 y2 y3 y4 y5 y6 y7 => N4.rec (fun x0 x1 x2 x3 => k ⟨⟨y0, y1, y2, y3, y4, ⟨x0, v, x2, x3⟩, y6, y7⟩, z1, z2, z3, z4, z5, z6, z7⟩) y5) z0) e
def s22 : Dv := fun v e k => N8.rec (fun z0 z1 z2 z3 z4 z5 z6 z7 => N8.rec (fun y0 y1 y2 y3 y4 y5 y6 y7 => N4.rec (fun x0 x1 x2 x3 => k ⟨⟨y0, y1, y2, y3, y4, ⟨x0, x1, v, x3⟩, y6, y7⟩, z1, z2, z3, z4, z5, z6, z7⟩) y5) z0) e
def s23 : Dv := fun v e k => N8.rec (fun z0 z1 z2 z3 z4 z5 z6 z7 => N8.rec (fun y0 y1 y2 y3 y4 y5 y6 y7 => N4.rec (fun x0 x1 x2 x3 => k ⟨⟨y0, y1, y2, y3, y4, ⟨x0, x1, x2, v⟩, y6, y7⟩, z1, z2, z3, z4, z5, z6, z7⟩) y5) z0) e
def s24 : Dv := fun v e k => N8.rec (fun z0 z1 z2 z3 z4 z5 z6 z7 => N8.rec (fun y0 y1 y2 y3 y4 y5 y6 y7 => N4.rec (fun x0 x1 x2 x3 => k ⟨⟨y0, y1, y2, y3, y4, y5, ⟨v, x1, x2, x3⟩, y7⟩, z1, z2, z3, z4, z5, z6, z7⟩) y6) z0) e
def s25 : Dv := fun v e k => N8.rec (fun z0 z1 z2 z3 z4 z5 z6 z7 => N8.rec (fun y0 y1 y2 y3 y4 y5 y6 y7 => N4.rec (fun x0 x1 x2 x3 => k ⟨⟨y0, y1, y2, y3, y4, y5, ⟨x0, v, x2, x3⟩, y7⟩, z1, z2, z3, z4, z5, z6, z7⟩) y6) z0) e
def s26 : Dv := fun v e k => N8.rec (fun z0 z1 z2 z3 z4 z5 z6 z7 => N8.rec (fun y0 y1 y2 y3 y4 y5 y6 y7 => N4.rec (fun x0 x1 x2 x3 => k ⟨⟨y0, y1, y2, y3, y4, y5, ⟨x0, x1, v, x3⟩, y7⟩, z1, z2, z3, z4, z5, z6, z7⟩) y6) z0) e
def s27 : Dv := fun v e k => N8.rec (fun z0 z1 z2 z3 z4 z5 z6 z7 => N8.rec (fun y0 y1 y2 y3 y4 y5 y6 y7 => N4.rec (fun x0 x1 x2 x3 => k ⟨⟨y0, y1, y2, y3, y4, y5, ⟨x0, x1, x2, v⟩, y7⟩, z1, z2, z3, z4, z5, z6, z7⟩) y6) z0) e
def s28 : Dv := fun v e k => N8.rec (fun z0 z1 z2 z3 z4 z5 z6 z7 => N8.rec (fun y0 y1 y2 y3 y4 y5 y6 y7 => N4.rec (fun x0 x1 x2 x3 => k ⟨⟨y0, y1, y2, y3, y4, y5, y6, ⟨v, x1, x2, x3⟩⟩, z1, z2, z3, z4, z5, z6, z7⟩) y7) z0) e
def s29 : Dv := fun v e k => N8.rec (fun z0 z1 z2 z3 z4 z5 z6 z7 => N8.rec (fun y0 y1 y2 y3 y4 y5 y6 y7 => N4.rec (fun x0 x1 x2 x3 => k ⟨⟨y0, y1, y2, y3, y4, y5, y6, ⟨x0, v, x2, x3⟩⟩, z1, z2, z3, z4, z5, z6, z7⟩) y7) z0) e
def s30 : Dv := fun v e k => N8.rec (fun z0 z1 z2 z3 z4 z5 z6 z7 => N8.rec (fun y0 y1 y2 y3 y4 y5 y6 y7 => N4.rec (fun x0 x1 x2 x3 => k ⟨⟨y0, y1, y2, y3, y4, y5, y6, ⟨x0, x1, v, x3⟩⟩, z1, z2, z3, z4, z5, z6, z7⟩) y7) z0) e
def s31 : Dv := fun v e k => N8.rec (fun z0 z1 z2 z3 z4 z5 z6 z7 => N8.rec (fun y0 y1 y2 y3 y4 y5 y6 y7 => N4.rec (fun x0 x1 x2 x3 => k ⟨⟨y0, y1, y2, y3, y4, y5, y6, ⟨x0, x1, x2, v⟩⟩, z1, z2, z3, z4, z5, z6, z7⟩) y7) z0) e
def s32 : Dv := fun v e k => N8.rec (fun z0 z1 z2 z3 z4 z5 z6 z7 => N8.rec (fun y0 y1 y2 y3 y4 y5 y6 y7 => N4.rec (fun x0 x1 x2 x3 => k ⟨z0, ⟨⟨v, x1, x2, x3⟩, y1, y2, y3, y4, y5, y6, y7⟩, z2, z3, z4, z5, z6, z7⟩) y0) z1) e
def s33 : Dv := fun v e k => N8.rec (fun z0 z1 z2 z3 z4 z5 z6 z7 => N8.rec (fun y0 y1 y2 y3 y4 y5 y6 y7 => N4.rec (fun x0 x1 x2 x3 => k ⟨z0, ⟨⟨x0, v, x2, x3⟩, y1, y2, y3, y4, y5, y6, y7⟩, z2, z3, z4, z5, z6, z7⟩) y0) z1) e
def s34 : Dv := fun v e k => N8.rec (fun z0 z1 z2 z3 z4 z5 z6 z7 => N8.rec (fun y0 y1 y2 y3 y4 y5 y6 y7 => N4.rec (fun x0 x1 x2 x3 => k ⟨z0, ⟨⟨x0, x1, v, x3⟩, y1, y2, y3, y4, y5, y6, y7⟩, z2, z3, z4, z5, z6, z7⟩) y0) z1) e
def s35 : Dv := fun v e k => N8.rec (fun z0 z1 z2 z3 z4 z5 z6 z7 => N8.rec (fun y0 y1 y2 y3 y4 y5 y6 y7 => N4.rec (fun x0 x1 x2 x3 => k ⟨z0, ⟨⟨x0, x1, x2, v⟩, y1, y2, y3, y4, y5, y6, y7⟩, z2, z3, z4, z5, z6, z7⟩) y0) z1) e
def s36 : Dv := fun v e k => N8.rec (fun z0 z1 z2 z3 z4 z5 z6 z7 => N8.rec (fun y0 y1 y2 y3 y4 y5 y6 y7 => N4.rec (fun x0 x1 x2 x3 => k ⟨z0, ⟨y0, ⟨v, x1, x2, x3⟩, y2, y3, y4, y5, y6, y7⟩, z2, z3, z4, z5, z6, z7⟩) y1) z1) e
def s37 : Dv := fun v e k => N8.rec (fun z0 z1 z2 z3 z4 z5 z6 z7 => N8.rec (fun y0 y1 y2 y3 y4 y5 y6 y7 => N4.rec (fun x0 x1 x2 x3 => k ⟨z0, ⟨y0, ⟨x0, v, x2, x3⟩, y2, y3, y4, y5, y6, y7⟩, z2, z3, z4, z5, z6, z7⟩) y1) z1) e
def s38 : Dv := fun v e k => N8.rec (fun z0 z1 z2 z3 z4 z5 z6 z7 => N8.rec (fun y0 y1 y2 y3 y4 y5 y6 y7 => N4.rec (fun x0 x1 x2 x3 => k ⟨z0, ⟨y0, ⟨x0, x1, v, x3⟩, y2, y3, y4, y5, y6, y7⟩, z2, z3, z4, z5, z6, z7⟩) y1) z1) e
def s39 : Dv := fun v e k => N8.rec (fun z0 z1 z2 z3 z4 z5 z6 z7 => N8.rec (fun y0 y1 y2 y3 y4 y5 y6 y7 => N4.rec (fun x0 x1 x2 x3 => k ⟨z0, ⟨y0, ⟨x0, x1, x2, v⟩, y2, y3, y4, y5, y6, y7⟩, z2, z3, z4, z5, z6, z7⟩) y1) z1) e
def s40 : Dv := fun v e k => N8.rec (fun z0 z1 z2 z3 z4 z5 z6 z7 => N8.rec (fun y0 y1 y2 y3 y4 y5 y6 y7 => N4.rec (fun x0 x1 x2 x3 => k ⟨z0, ⟨y0, y1, ⟨v, x1, x2, x3⟩, y3, y4, y5, y6, y7⟩, z2, z3, z4, z5, z6, z7⟩) y2) z1) e
def s41 : Dv := fun v e k => N8.rec (fun z0 z1 z2 z3 z4 z5 z6 z7 => N8.rec (fun y0 y1 y2 y3 y4 y5 y6 y7 => N4.rec (fun x0 x1 x2 x3 => k ⟨z0, ⟨y0, y1, ⟨x0, v, x2, x3⟩, y3, y4, y5, y6, y7⟩, z2, z3, z4, z5, z6, z7⟩) y2) z1) e
def s42 : Dv := fun v e k => N8.rec (fun z0 z1 z2 z3 z4 z5 z6 z7 => N8.rec (fun y0 y1 y2 y3 y4 y5 y6 y7 => N4.rec (fun x0 x1 x2 x3 => k ⟨z0, ⟨y0, y1, ⟨x0, x1, v, x3⟩, y3, y4, y5, y6, y7⟩, z2, z3, z4, z5, z6, z7⟩) y2) z1) e
def s43 : Dv := fun v e k => N8.rec (fun z0 z1 z2 z3 z4 z5 z6 z7 => N8.rec (fun y0 y1 y2 y3 y4 y5 y6 y7 => N4.rec (fun x0 x1 x2 x3 => k ⟨z0, ⟨y0, y1, ⟨x0, x1, x2, v⟩, y3, y4, y5, y6, y7⟩, z2, z3, z4, z5, z6, z7⟩) y2) z1) e
def s44 : Dv := fun v e k => N8.rec (fun z0 z1 z2 z3 z4 z5 z6 z7 => N8.rec (fun y0 y1 y2 y3 y4 y5 y6 y7 => N4.rec (fun x0 x1 x2 x3 => k ⟨z0, ⟨y0, y1, y2, ⟨v, x1, x2, x3⟩, y4, y5, y6, y7⟩, z2, z3, z4, z5, z6, z7⟩) y3) z1) e
def s45 : Dv := fun v e k => N8.rec (fun z0 z1 z2 z3 z4 z5 z6 z7 => N8.rec (fun y0 y1 y2 y3 y4 y5 y6 y7 => N4.rec (fun x0 x1 x2 x3 => k ⟨z0, ⟨y0, y1, y2, ⟨x0, v, x2, x3⟩, y4, y5, y6, y7⟩, z2, z3, z4, z5, z6, z7⟩) y3) z1) e
def s46 : Dv := fun v e k => N8.rec (fun z0 z1 z2 z3 z4 z5 z6 z7 => N8.rec (fun y0 y1 y2 y3 y4 y5 y6 y7 => N4.rec (fun x0 x1 x2 x3 => k ⟨z0, ⟨y0, y1, y2, ⟨x0, x1, v, x3⟩, y4, y5, y6, y7⟩, z2, z3, z4, z5, z6, z7⟩) y3) z1) e
def s47 : Dv := fun v e k => N8.rec (fun z0 z1 z2 z3 z4 z5 z6 z7 => N8.rec (fun y0 y1 y2 y3 y4 y5 y6 y7 => N4.rec (fun x0 x1 x2 x3 => k ⟨z0, ⟨y0, y1, y2, ⟨x0, x1, x2, v⟩, y4, y5, y6, y7⟩, z2, z3, z4, z5, z6, z7⟩) y3) z1) e
def s48 : Dv := fun v e k => N8.rec (fun z0 z1 z2 z3 z4 z5 z6 z7 => N8.rec (fun y0 y1 y2 y3 y4 y5 y6 y7 => N4.rec (fun x0 x1 x2 x3 => k ⟨z0, ⟨y0, y1, y2, y3, ⟨v, x1, x2, x3⟩, y5, y6, y7⟩, z2, z3, z4, z5, z6, z7⟩) y4) z1) e
def s49 : Dv := fun v e k => N8.rec (fun z0 z1 z2 z3 z4 z5 z6 z7 => N8.rec (fun y0 y1 y2 y3 y4 y5 y6 y7 => N4.rec (fun x0 x1 x2 x3 => k ⟨z0, ⟨y0, y1, y2, y3, ⟨x0, v, x2, x3⟩, y5, y6, y7⟩, z2, z3, z4, z5, z6, z7⟩) y4) z1) e
def s50 : Dv := fun v e k => N8.rec (fun z0 z1 z2 z3 z4 z5 z6 z7 => N8.rec (fun y0 y1 y2 y3 y4 y5 y6 y7 => N4.rec (fun x0 x1 x2 x3 => k ⟨z0, ⟨y0, y1, y2, y3, ⟨x0, x1, v, x3⟩, y5, y6, y7⟩, z2, z3, z4, z5, z6, z7⟩) y4) z1) e
def s51 : Dv := fun v e k => N8.rec (fun z0 z1 z2 z3 z4 z5 z6 z7 => N8.rec (fun y0 y1 y2 y3 y4 y5 y6 y7 => N4.rec (fun x0 x1 x2 x3 => k ⟨z0, ⟨y0, y1, y2, y3, ⟨x0, x1, x2, v⟩, y5, y6, y7⟩, z2, z3, z4, z5, z6, z7⟩) y4) z1) e
def s52 : Dv := fun v e k => N8.rec (fun z0 z1 z2 z3 z4 z5 z6 z7 => N8.rec (fun y0 y1 y2 y3 y4 y5 y6 y7 => N4.rec (fun x0 x1 x2 x3 => k ⟨z0, ⟨y0, y1, y2, y3, y4, ⟨v, x1, x2, x3⟩, y6, y7⟩, z2, z3, z4, z5, z6, z7⟩) y5) z1) e
def s53 : Dv := fun v e k => N8.rec (fun z0 z1 z2 z3 z4 z5 z6 z7 => N8.rec (fun y0 y1 y2 y3 y4 y5 y6 y7 => N4.rec (fun x0 x1 x2 x3 => k ⟨z0, ⟨y0, y1, y2, y3, y4, ⟨x0, v, x2, x3⟩, y6, y7⟩, z2, z3, z4, z5, z6, z7⟩) y5) z1) e
def s54 : Dv := fun v e k => N8.rec (fun z0 z1 z2 z3 z4 z5 z6 z7 => N8.rec (fun y0 y1 y2 y3 y4 y5 y6 y7 => N4.rec (fun x0 x1 x2 x3 => k ⟨z0, ⟨y0, y1, y2, y3, y4, ⟨x0, x1, v, x3⟩, y6, y7⟩, z2, z3, z4, z5, z6, z7⟩) y5) z1) e
def s55 : Dv := fun v e k => N8.rec (fun z0 z1 z2 z3 z4 z5 z6 z7 => N8.rec (fun y0 y1 y2 y3 y4 y5 y6 y7 => N4.rec (fun x0 x1 x2 x3 => k ⟨z0, ⟨y0, y1, y2, y3, y4, ⟨x0, x1, x2, v⟩, y6, y7⟩, z2, z3, z4, z5, z6, z7⟩) y5) z1) e
def s56 : Dv := fun v e k => N8.rec (fun z0 z1 z2 z3 z4 z5 z6 z7 => N8.rec (fun y0 y1 y2 y3 y4 y5 y6 y7 => N4.rec (fun x0 x1 x2 x3 => k ⟨z0, ⟨y0, y1, y2, y3, y4, y5, ⟨v, x1, x2, x3⟩, y7⟩, z2, z3, z4, z5, z6, z7⟩) y6) z1) e
def s57 : Dv := fun v e k => N8.rec (fun z0 z1 z2 z3 z4 z5 z6 z7 => N8.rec (fun y0 y1 y2 y3 y4 y5 y6 y7 => N4.rec (fun x0 x1 x2 x3 => k ⟨z0, ⟨y0, y1, y2, y3, y4, y5, ⟨x0, v, x2, x3⟩, y7⟩, z2, z3, z4, z5, z6, z7⟩) y6) z1) e
def s58 : Dv := fun v e k => N8.rec (fun z0 z1 z2 z3 z4 z5 z6 z7 => N8.rec (fun y0 y1 y2 y3 y4 y5 y6 y7 => N4.rec (fun x0 x1 x2 x3 => k ⟨z0, ⟨y0, y1, y2, y3, y4, y5, ⟨x0, x1, v, x3⟩, y7⟩, z2, z3, z4, z5, z6, z7⟩) y6) z1) e
def s59 : Dv := fun v e k => N8.rec (fun z0 z1 z2 z3 z4 z5 z6 z7 => N8.rec (fun y0 y1 y2 y3 y4 y5 y6 y7 => N4.rec (fun x0 x1 x2 x3 => k ⟨z0, ⟨y0, y1, y2, y3, y4, y5, ⟨x0, x1, x2, v⟩, y7⟩, z2, z3, z4, z5, z6, z7⟩) y6) z1) e
def s60 : Dv := fun v e k => N8.rec (fun z0 z1 z2 z3 z4 z5 z6 z7 => N8.rec (fun y0 y1 y2 y3 y4 y5 y6 y7 => N4.rec (fun x0 x1 x2 x3 => k ⟨z0, ⟨y0, y1, y2, y3, y4, y5, y6, ⟨v, x1, x2, x3⟩⟩, z2, z3, z4, z5, z6, z7⟩) y7) z1) e
def s61 : Dv := fun v e k => N8.rec (fun z0 z1 z2 z3 z4 z5 z6 z7 => N8.rec (fun y0 y1 y2 y3 y4 y5 y6 y7 => N4.rec (fun x0 x1 x2 x3 => k ⟨z0, ⟨y0, y1, y2, y3, y4, y5, y6, ⟨x0, v, x2, x3⟩⟩, z2, z3, z4, z5, z6, z7⟩) y7) z1) e
def s62 : Dv := fun v e k => N8.rec (fun z0 z1 z2 z3 z4 z5 z6 z7 => N8.rec (fun y0 y1 y2 y3 y4 y5 y6 y7 => N4.rec (fun x0 x1 x2 x3 => k ⟨z0, ⟨y0, y1, y2, y3, y4, y5, y6, ⟨x0, x1, v, x3⟩⟩, z2, z3, z4, z5, z6, z7⟩) y7) z1) e
def s63 : Dv := fun v e k => N8.rec (fun z0 z1 z2 z3 z4 z5 z6 z7 => N8.rec (fun y0 y1 y2 y3 y4 y5 y6 y7 => N4.rec (fun x0 x1 x2 x3 => k ⟨z0, ⟨y0, y1, y2, y3, y4, y5, y6, ⟨x0, x1, x2, v⟩⟩, z2, z3, z4, z5, z6, z7⟩) y7) z1) e
def s64 : Dv := fun v e k => N8.rec (fun z0 z1 z2 z3 z4 z5 z6 z7 => N8.rec (fun y0 y1 y2 y3 y4 y5 y6 y7 => N4.rec (fun x0 x1 x2 x3 => k ⟨z0, z1, ⟨⟨v, x1, x2, x3⟩, y1, y2, y3, y4, y5, y6, y7⟩, z3, z4, z5, z6, z7⟩) y0) z2) e
def s65 : Dv := fun v e k => N8.rec (fun z0 z1 z2 z3 z4 z5 z6 z7 => N8.rec (fun y0 y1 y2 y3 y4 y5 y6 y7 => N4.rec (fun x0 x1 x2 x3 => k ⟨z0, z1, ⟨⟨x0, v, x2, x3⟩, y1, y2, y3, y4, y5, y6, y7⟩, z3, z4, z5, z6, z7⟩) y0) z2) e
def s66 : Dv := fun v e k => N8.rec (fun z0 z1 z2 z3 z4 z5 z6 z7 => N8.rec (fun y0 y1 y2 y3 y4 y5 y6 y7 => N4.rec (fun x0 x1 x2 x3 => k ⟨z0, z1, ⟨⟨x0, x1, v, x3⟩, y1, y2, y3, y4, y5, y6, y7⟩, z3, z4, z5, z6, z7⟩) y0) z2) e
def s67 : Dv := fun v e k => N8.rec (fun z0 z1 z2 z3 z4 z5 z6 z7 => N8.rec (fun y0 y1 y2 y3 y4 y5 y6 y7 => N4.rec (fun x0 x1 x2 x3 => k ⟨z0, z1, ⟨⟨x0, x1, x2, v⟩, y1, y2, y3, y4, y5, y6, y7⟩, z3, z4, z5, z6, z7⟩) y0) z2) e
def s68 : Dv := fun v e k => N8.rec (fun z0 z1 z2 z3 z4 z5 z6 z7 => N8.rec (fun y0 y1 y2 y3 y4 y5 y6 y7 => N4.rec (fun x0 x1 x2 x3 => k ⟨z0, z1, ⟨y0, ⟨v, x1, x2, x3⟩, y2, y3, y4, y5, y6, y7⟩, z3, z4, z5, z6, z7⟩) y1) z2) e
def s69 : Dv := fun v e k => N8.rec (fun z0 z1 z2 z3 z4 z5 z6 z7 => N8.rec (fun y0 y1 y2 y3 y4 y5 y6 y7 => N4.rec (fun x0 x1 x2 x3 => k ⟨z0, z1, ⟨y0, ⟨x0, v, x2, x3⟩, y2, y3, y4, y5, y6, y7⟩, z3, z4, z5, z6, z7⟩) y1) z2) e
def s70 : Dv := fun v e k => N8.rec (fun z0 z1 z2 z3 z4 z5 z6 z7 => N8.rec (fun y0 y1 y2 y3 y4 y5 y6 y7 => N4.rec (fun x0 x1 x2 x3 => k ⟨z0, z1, ⟨y0, ⟨x0, x1, v, x3⟩, y2, y3, y4, y5, y6, y7⟩, z3, z4, z5, z6, z7⟩) y1) z2) e
def s71 : Dv := fun v e k => N8.rec (fun z0 z1 z2 z3 z4 z5 z6 z7 => N8.rec (fun y0 y1 y2 y3 y4 y5 y6 y7 => N4.rec (fun x0 x1 x2 x3 => k ⟨z0, z1, ⟨y0, ⟨x0, x1, x2, v⟩, y2, y3, y4, y5, y6, y7⟩, z3, z4, z5, z6, z7⟩) y1) z2) e
def s72 : Dv := fun v e k => N8.rec (fun z0 z1 z2 z3 z4 z5 z6 z7 => N8.rec (fun y0 y1 y2 y3 y4 y5 y6 y7 => N4.rec (fun x0 x1 x2 x3 => k ⟨z0, z1, ⟨y0, y1, ⟨v, x1, x2, x3⟩, y3, y4, y5, y6, y7⟩, z3, z4, z5, z6, z7⟩) y2) z2) e
def s73 : Dv := fun v e k => N8.rec (fun z0 z1 z2 z3 z4 z5 z6 z7 => N8.rec (fun y0 y1 y2 y3 y4 y5 y6 y7 => N4.rec (fun x0 x1 x2 x3 => k ⟨z0, z1, ⟨y0, y1, ⟨x0, v, x2, x3⟩, y3, y4, y5, y6, y7⟩, z3, z4, z5, z6, z7⟩) y2) z2) e
def s74 : Dv := fun v e k => N8.rec (fun z0 z1 z2 z3 z4 z5 z6 z7 => N8.rec (fun y0 y1 y2 y3 y4 y5 y6 y7 => N4.rec (fun x0 x1 x2 x3 => k ⟨z0, z1, ⟨y0, y1, ⟨x0, x1, v, x3⟩, y3, y4, y5, y6, y7⟩, z3, z4, z5, z6, z7⟩) y2) z2) e
def s75 : Dv := fun v e k => N8.rec (fun z0 z1 z2 z3 z4 z5 z6 z7 => N8.rec (fun y0 y1 y2 y3 y4 y5 y6 y7 => N4.rec (fun x0 x1 x2 x3 => k ⟨z0, z1, ⟨y0, y1, ⟨x0, x1, x2, v⟩, y3, y4, y5, y6, y7⟩, z3, z4, z5, z6, z7⟩) y2) z2) e
def s76 : Dv := fun v e k => N8.rec (fun z0 z1 z2 z3 z4 z5 z6 z7 => N8.rec (fun y0 y1 y2 y3 y4 y5 y6 y7 => N4.rec (fun x0 x1 x2 x3 => k ⟨z0, z1, ⟨y0, y1, y2, ⟨v, x1, x2, x3⟩, y4, y5, y6, y7⟩, z3, z4, z5, z6, z7⟩) y3) z2) e
def s77 : Dv := fun v e k => N8.rec (fun z0 z1 z2 z3 z4 z5 z6 z7 => N8.rec (fun y0 y1 y2 y3 y4 y5 y6 y7 => N4.rec (fun x0 x1 x2 x3 => k ⟨z0, z1, ⟨y0, y1, y2, ⟨x0, v, x2, x3⟩, y4, y5, y6, y7⟩, z3, z4, z5, z6, z7⟩) y3) z2) e
def s78 : Dv := fun v e k => N8.rec (fun z0 z1 z2 z3 z4 z5 z6 z7 => N8.rec (fun y0 y1 y2 y3 y4 y5 y6 y7 => N4.rec (fun x0 x1 x2 x3 => k ⟨z0, z1, ⟨y0, y1, y2, ⟨x0, x1, v, x3⟩, y4, y5, y6, y7⟩, z3, z4, z5, z6, z7⟩) y3) z2) e
def s79 : Dv := fun v e k => N8.rec (fun z0 z1 z2 z3 z4 z5 z6 z7 => N8.rec (fun y0 y1 y2 y3 y4 y5 y6 y7 => N4.rec (fun x0 x1 x2 x3 => k ⟨z0, z1, ⟨y0, y1, y2, ⟨x0, x1, x2, v⟩, y4, y5, y6, y7⟩, z3, z4, z5, z6, z7⟩) y3) z2) e
def s80 : Dv := fun v e k => N8.rec (fun z0 z1 z2 z3 z4 z5 z6 z7 => N8.rec (fun y0 y1 y2 y3 y4 y5 y6 y7 => N4.rec (fun x0 x1 x2 x3 => k ⟨z0, z1, ⟨y0, y1, y2, y3, ⟨v, x1, x2, x3⟩, y5, y6, y7⟩, z3, z4, z5, z6, z7⟩) y4) z2) e
def s81 : Dv := fun v e k => N8.rec (fun z0 z1 z2 z3 z4 z5 z6 z7 => N8.rec (fun y0 y1 y2 y3 y4 y5 y6 y7 => N4.rec (fun x0 x1 x2 x3 => k ⟨z0, z1, ⟨y0, y1, y2, y3, ⟨x0, v, x2, x3⟩, y5, y6, y7⟩, z3, z4, z5, z6, z7⟩) y4) z2) e
def s82 : Dv := fun v e k => N8.rec (fun z0 z1 z2 z3 z4 z5 z6 z7 => N8.rec (fun y0 y1 y2 y3 y4 y5 y6 y7 => N4.rec (fun x0 x1 x2 x3 => k ⟨z0, z1, ⟨y0, y1, y2, y3, ⟨x0, x1, v, x3⟩, y5, y6, y7⟩, z3, z4, z5, z6, z7⟩) y4) z2) e
def s83 : Dv := fun v e k => N8.rec (fun z0 z1 z2 z3 z4 z5 z6 z7 => N8.rec (fun y0 y1 y2 y3 y4 y5 y6 y7 => N4.rec (fun x0 x1 x2 x3 => k ⟨z0, z1, ⟨y0, y1, y2, y3, ⟨x0, x1, x2, v⟩, y5, y6, y7⟩, z3, z4, z5, z6, z7⟩) y4) z2) e
def s84 : Dv := fun v e k => N8.rec (fun z0 z1 z2 z3 z4 z5 z6 z7 => N8.rec (fun y0 y1 y2 y3 y4 y5 y6 y7 => N4.rec (fun x0 x1 x2 x3 => k ⟨z0, z1, ⟨y0, y1, y2, y3, y4, ⟨v, x1, x2, x3⟩, y6, y7⟩, z3, z4, z5, z6, z7⟩) y5) z2) e
def s85 : Dv := fun v e k => N8.rec (fun z0 z1 z2 z3 z4 z5 z6 z7 => N8.rec (fun y0 y1 y2 y3 y4 y5 y6 y7 => N4.rec (fun x0 x1 x2 x3 => k ⟨z0, z1, ⟨y0, y1, y2, y3, y4, ⟨x0, v, x2, x3⟩, y6, y7⟩, z3, z4, z5, z6, z7⟩) y5) z2) e
def s86 : Dv := fun v e k => N8.rec (fun z0 z1 z2 z3 z4 z5 z6 z7 => N8.rec (fun y0 y1 y2 y3 y4 y5 y6 y7 => N4.rec (fun x0 x1 x2 x3 => k ⟨z0, z1, ⟨y0, y1, y2, y3, y4, ⟨x0, x1, v, x3⟩, y6, y7⟩, z3, z4, z5, z6, z7⟩) y5) z2) e
def s87 : Dv := fun v e k => N8.rec (fun z0 z1 z2 z3 z4 z5 z6 z7 => N8.rec (fun y0 y1 y2 y3 y4 y5 y6 y7 => N4.rec (fun x0 x1 x2 x3 => k ⟨z0, z1, ⟨y0, y1, y2, y3, y4, ⟨x0, x1, x2, v⟩, y6, y7⟩, z3, z4, z5, z6, z7⟩) y5) z2) e
def s88 : Dv := fun v e k => N8.rec (fun z0 z1 z2 z3 z4 z5 z6 z7 => N8.rec (fun y0 y1 y2 y3 y4 y5 y6 y7 => N4.rec (fun x0 x1 x2 x3 => k ⟨z0, z1, ⟨y0, y1, y2, y3, y4, y5, ⟨v, x1, x2, x3⟩, y7⟩, z3, z4, z5, z6, z7⟩) y6) z2) e
def s89 : Dv := fun v e k => N8.rec (fun z0 z1 z2 z3 z4 z5 z6 z7 => N8.rec (fun y0 y1 y2 y3 y4 y5 y6 y7 => N4.rec (fun x0 x1 x2 x3 => k ⟨z0, z1, ⟨y0, y1, y2, y3, y4, y5, ⟨x0, v, x2, x3⟩, y7⟩, z3, z4, z5, z6, z7⟩) y6) z2) e
def s90 : Dv := fun v e k => N8.rec (fun z0 z1 z2 z3 z4 z5 z6 z7 => N8.rec (fun y0 y1 y2 y3 y4 y5 y6 y7 => N4.rec (fun x0 x1 x2 x3 => k ⟨z0, z1, ⟨y0, y1, y2, y3, y4, y5, ⟨x0, x1, v, x3⟩, y7⟩, z3, z4, z5, z6, z7⟩) y6) z2) e
def s91 : Dv := fun v e k => N8.rec (fun z0 z1 z2 z3 z4 z5 z6 z7 => N8.rec (fun y0 y1 y2 y3 y4 y5 y6 y7 => N4.rec (fun x0 x1 x2 x3 => k ⟨z0, z1, ⟨y0, y1, y2, y3, y4, y5, ⟨x0, x1, x2, v⟩, y7⟩, z3, z4, z5, z6, z7⟩) y6) z2) e
def s92 : Dv := fun v e k => N8.rec (fun z0 z1 z2 z3 z4 z5 z6 z7 => N8.rec (fun y0 y1 y2 y3 y4 y5 y6 y7 => N4.rec (fun x0 x1 x2 x3 => k ⟨z0, z1, ⟨y0, y1, y2, y3, y4, y5, y6, ⟨v, x1, x2, x3⟩⟩, z3, z4, z5, z6, z7⟩) y7) z2) e
def s93 : Dv := fun v e k => N8.rec (fun z0 z1 z2 z3 z4 z5 z6 z7 => N8.rec (fun y0 y1 y2 y3 y4 y5 y6 y7 => N4.rec (fun x0 x1 x2 x3 => k ⟨z0, z1, ⟨y0, y1, y2, y3, y4, y5, y6, ⟨x0, v, x2, x3⟩⟩, z3, z4, z5, z6, z7⟩) y7) z2) e
def s94 : Dv := fun v e k => N8.rec (fun z0 z1 z2 z3 z4 z5 z6 z7 => N8.rec (fun y0 y1 y2 y3 y4 y5 y6 y7 => N4.rec (fun x0 x1 x2 x3 => k ⟨z0, z1, ⟨y0, y1, y2, y3, y4, y5, y6, ⟨x0, x1, v, x3⟩⟩, z3, z4, z5, z6, z7⟩) y7) z2) e
def s95 : Dv := fun v e k => N8.rec (fun z0 z1 z2 z3 z4 z5 z6 z7 => N8.rec (fun y0 y1 y2 y3 y4 y5 y6 y7 => N4.rec (fun x0 x1 x2 x3 => k ⟨z0, z1, ⟨y0, y1, y2, y3, y4, y5, y6, ⟨x0, x1, x2, v⟩⟩, z3, z4, z5, z6, z7⟩) y7) z2) e
def s96 : Dv := fun v e k => N8.rec (fun z0 z1 z2 z3 z4 z5 z6 z7 => N8.rec (fun y0 y1 y2 y3 y4 y5 y6 y7 => N4.rec (fun x0 x1 x2 x3 => k ⟨z0, z1, z2, ⟨⟨v, x1, x2, x3⟩, y1, y2, y3, y4, y5, y6, y7⟩, z4, z5, z6, z7⟩) y0) z3) e
def s97 : Dv := fun v e k => N8.rec (fun z0 z1 z2 z3 z4 z5 z6 z7 => N8.rec (fun y0 y1 y2 y3 y4 y5 y6 y7 => N4.rec (fun x0 x1 x2 x3 => k ⟨z0, z1, z2, ⟨⟨x0, v, x2, x3⟩, y1, y2, y3, y4, y5, y6, y7⟩, z4, z5, z6, z7⟩) y0) z3) e
def s98 : Dv := fun v e k => N8.rec (fun z0 z1 z2 z3 z4 z5 z6 z7 => N8.rec (fun y0 y1 y2 y3 y4 y5 y6 y7 => N4.rec (fun x0 x1 x2 x3 => k ⟨z0, z1, z2, ⟨⟨x0, x1, v, x3⟩, y1, y2, y3, y4, y5, y6, y7⟩, z4, z5, z6, z7⟩) y0) z3) e
def s99 : Dv := fun v e k => N8.rec (fun z0 z1 z2 z3 z4 z5 z6 z7 => N8.rec (fun y0 y1 y2 y3 y4 y5 y6 y7 => N4.rec (fun x0 x1 x2 x3 => k ⟨z0, z1, z2, ⟨⟨x0, x1, x2, v⟩, y1, y2, y3, y4, y5, y6, y7⟩, z4, z5, z6, z7⟩) y0) z3) e
def s100 : Dv := fun v e k => N8.rec (fun z0 z1 z2 z3 z4 z5 z6 z7 => N8.rec (fun y0 y1 y2 y3 y4 y5 y6 y7 => N4.rec (fun x0 x1 x2 x3 => k ⟨z0, z1, z2, ⟨y0, ⟨v, x1, x2, x3⟩, y2, y3, y4, y5, y6, y7⟩, z4, z5, z6, z7⟩) y1) z3) e
def s101 : Dv := fun v e k => N8.rec (fun z0 z1 z2 z3 z4 z5 z6 z7 => N8.rec (fun y0 y1 y2 y3 y4 y5 y6 y7 => N4.rec (fun x0 x1 x2 x3 => k ⟨z0, z1, z2, ⟨y0, ⟨x0, v, x2, x3⟩, y2, y3, y4, y5, y6, y7⟩, z4, z5, z6, z7⟩) y1) z3) e
def s102 : Dv := fun v e k => N8.rec (fun z0 z1 z2 z3 z4 z5 z6 z7 => N8.rec (fun y0 y1 y2 y3 y4 y5 y6 y7 => N4.rec (fun x0 x1 x2 x3 => k ⟨z0, z1, z2, ⟨y0, ⟨x0, x1, v, x3⟩, y2, y3, y4, y5, y6, y7⟩, z4, z5, z6, z7⟩) y1) z3) e
def s103 : Dv := fun v e k => N8.rec (fun z0 z1 z2 z3 z4 z5 z6 z7 => N8.rec (fun y0 y1 y2 y3 y4 y5 y6 y7 => N4.rec (fun x0 x1 x2 x3 => k ⟨z0, z1, z2, ⟨y0, ⟨x0, x1, x2, v⟩, y2, y3, y4, y5, y6, y7⟩, z4, z5, z6, z7⟩) y1) z3) e
def s104 : Dv := fun v e k => N8.rec (fun z0 z1 z2 z3 z4 z5 z6 z7 => N8.rec (fun y0 y1 y2 y3 y4 y5 y6 y7 => N4.rec (fun x0 x1 x2 x3 => k ⟨z0, z1, z2, ⟨y0, y1, ⟨v, x1, x2, x3⟩, y3, y4, y5, y6, y7⟩, z4, z5, z6, z7⟩) y2) z3) e
def s105 : Dv := fun v e k => N8.rec (fun z0 z1 z2 z3 z4 z5 z6 z7 => N8.rec (fun y0 y1 y2 y3 y4 y5 y6 y7 => N4.rec (fun x0 x1 x2 x3 => k ⟨z0, z1, z2, ⟨y0, y1, ⟨x0, v, x2, x3⟩, y3, y4, y5, y6, y7⟩, z4, z5, z6, z7⟩) y2) z3) e
def s106 : Dv := fun v e k => N8.rec (fun z0 z1 z2 z3 z4 z5 z6 z7 => N8.rec (fun y0 y1 y2 y3 y4 y5 y6 y7 => N4.rec (fun x0 x1 x2 x3 => k ⟨z0, z1, z2, ⟨y0, y1, ⟨x0, x1, v, x3⟩, y3, y4, y5, y6, y7⟩, z4, z5, z6, z7⟩) y2) z3) e
def s107 : Dv := fun v e k => N8.rec (fun z0 z1 z2 z3 z4 z5 z6 z7 => N8.rec (fun y0 y1 y2 y3 y4 y5 y6 y7 => N4.rec (fun x0 x1 x2 x3 => k ⟨z0, z1, z2, ⟨y0, y1, ⟨x0, x1, x2, v⟩, y3, y4, y5, y6, y7⟩, z4, z5, z6, z7⟩) y2) z3) e
def s108 : Dv := fun v e k => N8.rec (fun z0 z1 z2 z3 z4 z5 z6 z7 => N8.rec (fun y0 y1 y2 y3 y4 y5 y6 y7 => N4.rec (fun x0 x1 x2 x3 => k ⟨z0, z1, z2, ⟨y0, y1, y2, ⟨v, x1, x2, x3⟩, y4, y5, y6, y7⟩, z4, z5, z6, z7⟩) y3) z3) e
def s109 : Dv := fun v e k => N8.rec (fun z0 z1 z2 z3 z4 z5 z6 z7 => N8.rec (fun y0 y1 y2 y3 y4 y5 y6 y7 => N4.rec (fun x0 x1 x2 x3 => k ⟨z0, z1, z2, ⟨y0, y1, y2, ⟨x0, v, x2, x3⟩, y4, y5, y6, y7⟩, z4, z5, z6, z7⟩) y3) z3) e
def s110 : Dv := fun v e k => N8.rec (fun z0 z1 z2 z3 z4 z5 z6 z7 => N8.rec (fun y0 y1 y2 y3 y4 y5 y6 y7 => N4.rec (fun x0 x1 x2 x3 => k ⟨z0, z1, z2, ⟨y0, y1, y2, ⟨x0, x1, v, x3⟩, y4, y5, y6, y7⟩, z4, z5, z6, z7⟩) y3) z3) e
def s111 : Dv := fun v e k => N8.rec (fun z0 z1 z2 z3 z4 z5 z6 z7 => N8.rec (fun y0 y1 y2 y3 y4 y5 y6 y7 => N4.rec (fun x0 x1 x2 x3 => k ⟨z0, z1, z2, ⟨y0, y1, y2, ⟨x0, x1, x2, v⟩, y4, y5, y6, y7⟩, z4, z5, z6, z7⟩) y3) z3) e
def s112 : Dv := fun v e k => N8.rec (fun z0 z1 z2 z3 z4 z5 z6 z7 => N8.rec (fun y0 y1 y2 y3 y4 y5 y6 y7 => N4.rec (fun x0 x1 x2 x3 => k ⟨z0, z1, z2, ⟨y0, y1, y2, y3, ⟨v, x1, x2, x3⟩, y5, y6, y7⟩, z4, z5, z6, z7⟩) y4) z3) e
def s113 : Dv := fun v e k => N8.rec (fun z0 z1 z2 z3 z4 z5 z6 z7 => N8.rec (fun y0 y1 y2 y3 y4 y5 y6 y7 => N4.rec (fun x0 x1 x2 x3 => k ⟨z0, z1, z2, ⟨y0, y1, y2, y3, ⟨x0, v, x2, x3⟩, y5, y6, y7⟩, z4, z5, z6, z7⟩) y4) z3) e
def s114 : Dv := fun v e k => N8.rec (fun z0 z1 z2 z3 z4 z5 z6 z7 => N8.rec (fun y0 y1 y2 y3 y4 y5 y6 y7 => N4.rec (fun x0 x1 x2 x3 => k ⟨z0, z1, z2, ⟨y0, y1, y2, y3, ⟨x0, x1, v, x3⟩, y5, y6, y7⟩, z4, z5, z6, z7⟩) y4) z3) e
def s115 : Dv := fun v e k => N8.rec (fun z0 z1 z2 z3 z4 z5 z6 z7 => N8.rec (fun y0 y1 y2 y3 y4 y5 y6 y7 => N4.rec (fun x0 x1 x2 x3 => k ⟨z0, z1, z2, ⟨y0, y1, y2, y3, ⟨x0, x1, x2, v⟩, y5, y6, y7⟩, z4, z5, z6, z7⟩) y4) z3) e
def s116 : Dv := fun v e k => N8.rec (fun z0 z1 z2 z3 z4 z5 z6 z7 => N8.rec (fun y0 y1 y2 y3 y4 y5 y6 y7 => N4.rec (fun x0 x1 x2 x3 => k ⟨z0, z1, z2, ⟨y0, y1, y2, y3, y4, ⟨v, x1, x2, x3⟩, y6, y7⟩, z4, z5, z6, z7⟩) y5) z3) e
def s117 : Dv := fun v e k => N8.rec (fun z0 z1 z2 z3 z4 z5 z6 z7 => N8.rec (fun y0 y1 y2 y3 y4 y5 y6 y7 => N4.rec (fun x0 x1 x2 x3 => k ⟨z0, z1, z2, ⟨y0, y1, y2, y3, y4, ⟨x0, v, x2, x3⟩, y6, y7⟩, z4, z5, z6, z7⟩) y5) z3) e
def s118 : Dv := fun v e k => N8.rec (fun z0 z1 z2 z3 z4 z5 z6 z7 => N8.rec (fun y0 y1 y2 y3 y4 y5 y6 y7 => N4.rec (fun x0 x1 x2 x3 => k ⟨z0, z1, z2, ⟨y0, y1, y2, y3, y4, ⟨x0, x1, v, x3⟩, y6, y7⟩, z4, z5, z6, z7⟩) y5) z3) e
def s119 : Dv := fun v e k => N8.rec (fun z0 z1 z2 z3 z4 z5 z6 z7 => N8.rec (fun y0 y1 y2 y3 y4 y5 y6 y7 => N4.rec (fun x0 x1 x2 x3 => k ⟨z0, z1, z2, ⟨y0, y1, y2, y3, y4, ⟨x0, x1, x2, v⟩, y6, y7⟩, z4, z5, z6, z7⟩) y5) z3) e
def s120 : Dv := fun v e k => N8.rec (fun z0 z1 z2 z3 z4 z5 z6 z7 => N8.rec (fun y0 y1 y2 y3 y4 y5 y6 y7 => N4.rec (fun x0 x1 x2 x3 => k ⟨z0, z1, z2, ⟨y0, y1, y2, y3, y4, y5, ⟨v, x1, x2, x3⟩, y7⟩, z4, z5, z6, z7⟩) y6) z3) e
def s121 : Dv := fun v e k => N8.rec (fun z0 z1 z2 z3 z4 z5 z6 z7 => N8.rec (fun y0 y1 y2 y3 y4 y5 y6 y7 => N4.rec (fun x0 x1 x2 x3 => k ⟨z0, z1, z2, ⟨y0, y1, y2, y3, y4, y5, ⟨x0, v, x2, x3⟩, y7⟩, z4, z5, z6, z7⟩) y6) z3) e
def s122 : Dv := fun v e k => N8.rec (fun z0 z1 z2 z3 z4 z5 z6 z7 => N8.rec (fun y0 y1 y2 y3 y4 y5 y6 y7 => N4.rec (fun x0 x1 x2 x3 => k ⟨z0, z1, z2, ⟨y0, y1, y2, y3, y4, y5, ⟨x0, x1, v, x3⟩, y7⟩, z4, z5, z6, z7⟩) y6) z3) e
def s123 : Dv := fun v e k => N8.rec (fun z0 z1 z2 z3 z4 z5 z6 z7 => N8.rec (fun y0 y1 y2 y3 y4 y5 y6 y7 => N4.rec (fun x0 x1 x2 x3 => k ⟨z0, z1, z2, ⟨y0, y1, y2, y3, y4, y5, ⟨x0, x1, x2, v⟩, y7⟩, z4, z5, z6, z7⟩) y6) z3) e
def s124 : Dv := fun v e k => N8.rec (fun z0 z1 z2 z3 z4 z5 z6 z7 => N8.rec (fun y0 y1 y2 y3 y4 y5 y6 y7 => N4.rec (fun x0 x1 x2 x3 => k ⟨z0, z1, z2, ⟨y0, y1, y2, y3, y4, y5, y6, ⟨v, x1, x2, x3⟩⟩, z4, z5, z6, z7⟩) y7) z3) e
def s125 : Dv := fun v e k => N8.rec (fun z0 z1 z2 z3 z4 z5 z6 z7 => N8.rec (fun y0 y1 y2 y3 y4 y5 y6 y7 => N4.rec (fun x0 x1 x2 x3 => k ⟨z0, z1, z2, ⟨y0, y1, y2, y3, y4, y5, y6, ⟨x0, v, x2, x3⟩⟩, z4, z5, z6, z7⟩) y7) z3) e
def s126 : Dv := fun v e k => N8.rec (fun z0 z1 z2 z3 z4 z5 z6 z7 => N8.rec (fun y0 y1 y2 y3 y4 y5 y6 y7 => N4.rec (fun x0 x1 x2 x3 => k ⟨z0, z1, z2, ⟨y0, y1, y2, y3, y4, y5, y6, ⟨x0, x1, v, x3⟩⟩, z4, z5, z6, z7⟩) y7) z3) e
def s127 : Dv := fun v e k => N8.rec (fun z0 z1 z2 z3 z4 z5 z6 z7 => N8.rec (fun y0 y1 y2 y3 y4 y5 y6 y7 => N4.rec (fun x0 x1 x2 x3 => k ⟨z0, z1, z2, ⟨y0, y1, y2, y3, y4, y5, y6, ⟨x0, x1, x2, v⟩⟩, z4, z5, z6, z7⟩) y7) z3) e
def s128 : Dv := fun v e k => N8.rec (fun z0 z1 z2 z3 z4 z5 z6 z7 => N8.rec (fun y0 y1 y2 y3 y4 y5 y6 y7 => N4.rec (fun x0 x1 x2 x3 => k ⟨z0, z1, z2, z3, ⟨⟨v, x1, x2, x3⟩, y1, y2, y3, y4, y5, y6, y7⟩, z5, z6, z7⟩) y0) z4) e
def s129 : Dv := fun v e k => N8.rec (fun z0 z1 z2 z3 z4 z5 z6 z7 => N8.rec (fun y0 y1 y2 y3 y4 y5 y6 y7 => N4.rec (fun x0 x1 x2 x3 => k ⟨z0, z1, z2, z3, ⟨⟨x0, v, x2, x3⟩, y1, y2, y3, y4, y5, y6, y7⟩, z5, z6, z7⟩) y0) z4) e
def s130 : Dv := fun v e k => N8.rec (fun z0 z1 z2 z3 z4 z5 z6 z7 => N8.rec (fun y0 y1 y2 y3 y4 y5 y6 y7 => N4.rec (fun x0 x1 x2 x3 => k ⟨z0, z1, z2, z3, ⟨⟨x0, x1, v, x3⟩, y1, y2, y3, y4, y5, y6, y7⟩, z5, z6, z7⟩) y0) z4) e
def s131 : Dv := fun v e k => N8.rec (fun z0 z1 z2 z3 z4 z5 z6 z7 => N8.rec (fun y0 y1 y2 y3 y4 y5 y6 y7 => N4.rec (fun x0 x1 x2 x3 => k ⟨z0, z1, z2, z3, ⟨⟨x0, x1, x2, v⟩, y1, y2, y3, y4, y5, y6, y7⟩, z5, z6, z7⟩) y0) z4) e
def s132 : Dv := fun v e k => N8.rec (fun z0 z1 z2 z3 z4 z5 z6 z7 => N8.rec (fun y0 y1 y2 y3 y4 y5 y6 y7 => N4.rec (fun x0 x1 x2 x3 => k ⟨z0, z1, z2, z3, ⟨y0, ⟨v, x1, x2, x3⟩, y2, y3, y4, y5, y6, y7⟩, z5, z6, z7⟩) y1) z4) e
def s133 : Dv := fun v e k => N8.rec (fun z0 z1 z2 z3 z4 z5 z6 z7 => N8.rec (fun y0 y1 y2 y3 y4 y5 y6 y7 => N4.rec (fun x0 x1 x2 x3 => k ⟨z0, z1, z2, z3, ⟨y0, ⟨x0, v, x2, x3⟩, y2, y3, y4, y5, y6, y7⟩, z5, z6, z7⟩) y1) z4) e
def s134 : Dv := fun v e k => N8.rec (fun z0 z1 z2 z3 z4 z5 z6 z7 => N8.rec (fun y0 y1 y2 y3 y4 y5 y6 y7 => N4.rec (fun x0 x1 x2 x3 => k ⟨z0, z1, z2, z3, ⟨y0, ⟨x0, x1, v, x3⟩, y2, y3, y4, y5, y6, y7⟩, z5, z6, z7⟩) y1) z4) e
def s135 : Dv := fun v e k => N8.rec (fun z0 z1 z2 z3 z4 z5 z6 z7 => N8.rec (fun y0 y1 y2 y3 y4 y5 y6 y7 => N4.rec (fun x0 x1 x2 x3 => k ⟨z0, z1, z2, z3, ⟨y0, ⟨x0, x1, x2, v⟩, y2, y3, y4, y5, y6, y7⟩, z5, z6, z7⟩) y1) z4) e
def s136 : Dv := fun v e k => N8.rec (fun z0 z1 z2 z3 z4 z5 z6 z7 => N8.rec (fun y0 y1 y2 y3 y4 y5 y6 y7 => N4.rec (fun x0 x1 x2 x3 => k ⟨z0, z1, z2, z3, ⟨y0, y1, ⟨v, x1, x2, x3⟩, y3, y4, y5, y6, y7⟩, z5, z6, z7⟩) y2) z4) e
def s137 : Dv := fun v e k => N8.rec (fun z0 z1 z2 z3 z4 z5 z6 z7 => N8.rec (fun y0 y1 y2 y3 y4 y5 y6 y7 => N4.rec (fun x0 x1 x2 x3 => k ⟨z0, z1, z2, z3, ⟨y0, y1, ⟨x0, v, x2, x3⟩, y3, y4, y5, y6, y7⟩, z5, z6, z7⟩) y2) z4) e
def s138 : Dv := fun v e k => N8.rec (fun z0 z1 z2 z3 z4 z5 z6 z7 => N8.rec (fun y0 y1 y2 y3 y4 y5 y6 y7 => N4.rec (fun x0 x1 x2 x3 => k ⟨z0, z1, z2, z3, ⟨y0, y1, ⟨x0, x1, v, x3⟩, y3, y4, y5, y6, y7⟩, z5, z6, z7⟩) y2) z4) e
def s139 : Dv := fun v e k => N8.rec (fun z0 z1 z2 z3 z4 z5 z6 z7 => N8.rec (fun y0 y1 y2 y3 y4 y5 y6 y7 => N4.rec (fun x0 x1 x2 x3 => k ⟨z0, z1, z2, z3, ⟨y0, y1, ⟨x0, x1, x2, v⟩, y3, y4, y5, y6, y7⟩, z5, z6, z7⟩) y2) z4) e
def s140 : Dv := fun v e k => N8.rec (fun z0 z1 z2 z3 z4 z5 z6 z7 => N8.rec (fun y0 y1 y2 y3 y4 y5 y6 y7 => N4.rec (fun x0 x1 x2 x3 => k ⟨z0, z1, z2, z3, ⟨y0, y1, y2, ⟨v, x1, x2, x3⟩, y4, y5, y6, y7⟩, z5, z6, z7⟩) y3) z4) e
def s141 : Dv := fun v e k => N8.rec (fun z0 z1 z2 z3 z4 z5 z6 z7 => N8.rec (fun y0 y1 y2 y3 y4 y5 y6 y7 => N4.rec (fun x0 x1 x2 x3 => k ⟨z0, z1, z2, z3, ⟨y0, y1, y2, ⟨x0, v, x2, x3⟩, y4, y5, y6, y7⟩, z5, z6, z7⟩) y3) z4) e
def s142 : Dv := fun v e k => N8.rec (fun z0 z1 z2 z3 z4 z5 z6 z7 => N8.rec (fun y0 y1 y2 y3 y4 y5 y6 y7 => N4.rec (fun x0 x1 x2 x3 => k ⟨z0, z1, z2, z3, ⟨y0, y1, y2, ⟨x0, x1, v, x3⟩, y4, y5, y6, y7⟩, z5, z6, z7⟩) y3) z4) e
def s143 : Dv := fun v e k => N8.rec (fun z0 z1 z2 z3 z4 z5 z6 z7 => N8.rec (fun y0 y1 y2 y3 y4 y5 y6 y7 => N4.rec (fun x0 x1 x2 x3 => k ⟨z0, z1, z2, z3, ⟨y0, y1, y2, ⟨x0, x1, x2, v⟩, y4, y5, y6, y7⟩, z5, z6, z7⟩) y3) z4) e
def s144 : Dv := fun v e k => N8.rec (fun z0 z1 z2 z3 z4 z5 z6 z7 => N8.rec (fun y0 y1 y2 y3 y4 y5 y6 y7 => N4.rec (fun x0 x1 x2 x3 => k ⟨z0, z1, z2, z3, ⟨y0, y1, y2, y3, ⟨v, x1, x2, x3⟩, y5, y6, y7⟩, z5, z6, z7⟩) y4) z4) e
def s145 : Dv := fun v e k => N8.rec (fun z0 z1 z2 z3 z4 z5 z6 z7 => N8.rec (fun y0 y1 y2 y3 y4 y5 y6 y7 => N4.rec (fun x0 x1 x2 x3 => k ⟨z0, z1, z2, z3, ⟨y0, y1, y2, y3, ⟨x0, v, x2, x3⟩, y5, y6, y7⟩, z5, z6, z7⟩) y4) z4) e
def s146 : Dv := fun v e k => N8.rec (fun z0 z1 z2 z3 z4 z5 z6 z7 => N8.rec (fun y0 y1 y2 y3 y4 y5 y6 y7 => N4.rec (fun x0 x1 x2 x3 => k ⟨z0, z1, z2, z3, ⟨y0, y1, y2, y3, ⟨x0, x1, v, x3⟩, y5, y6, y7⟩, z5, z6, z7⟩) y4) z4) e
def s147 : Dv := fun v e k => N8.rec (fun z0 z1 z2 z3 z4 z5 z6 z7 => N8.rec (fun y0 y1 y2 y3 y4 y5 y6 y7 => N4.rec (fun x0 x1 x2 x3 => k ⟨z0, z1, z2, z3, ⟨y0, y1, y2, y3, ⟨x0, x1, x2, v⟩, y5, y6, y7⟩, z5, z6, z7⟩) y4) z4) e
def s148 : Dv := fun v e k => N8.rec (fun z0 z1 z2 z3 z4 z5 z6 z7 => N8.rec (fun y0 y1 y2 y3 y4 y5 y6 y7 => N4.rec (fun x0 x1 x2 x3 => k ⟨z0, z1, z2, z3, ⟨y0, y1, y2, y3, y4, ⟨v, x1, x2, x3⟩, y6, y7⟩, z5, z6, z7⟩) y5) z4) e
def s149 : Dv := fun v e k => N8.rec (fun z0 z1 z2 z3 z4 z5 z6 z7 => N8.rec (fun y0 y1 y2 y3 y4 y5 y6 y7 => N4.rec (fun x0 x1 x2 x3 => k ⟨z0, z1, z2, z3, ⟨y0, y1, y2, y3, y4, ⟨x0, v, x2, x3⟩, y6, y7⟩, z5, z6, z7⟩) y5) z4) e
def s150 : Dv := fun v e k => N8.rec (fun z0 z1 z2 z3 z4 z5 z6 z7 => N8.rec (fun y0 y1 y2 y3 y4 y5 y6 y7 => N4.rec (fun x0 x1 x2 x3 => k ⟨z0, z1, z2, z3, ⟨y0, y1, y2, y3, y4, ⟨x0, x1, v, x3⟩, y6, y7⟩, z5, z6, z7⟩) y5) z4) e
def s151 : Dv := fun v e k => N8.rec (fun z0 z1 z2 z3 z4 z5 z6 z7 => N8.rec (fun y0 y1 y2 y3 y4 y5 y6 y7 => N4.rec (fun x0 x1 x2 x3 => k ⟨z0, z1, z2, z3, ⟨y0, y1, y2, y3, y4, ⟨x0, x1, x2, v⟩, y6, y7⟩, z5, z6, z7⟩) y5) z4) e
def s152 : Dv := fun v e k => N8.rec (fun z0 z1 z2 z3 z4 z5 z6 z7 => N8.rec (fun y0 y1 y2 y3 y4 y5 y6 y7 => N4.rec (fun x0 x1 x2 x3 => k ⟨z0, z1, z2, z3, ⟨y0, y1, y2, y3, y4, y5, ⟨v, x1, x2, x3⟩, y7⟩, z5, z6, z7⟩) y6) z4) e
def s153 : Dv := fun v e k => N8.rec (fun z0 z1 z2 z3 z4 z5 z6 z7 => N8.rec (fun y0 y1 y2 y3 y4 y5 y6 y7 => N4.rec (fun x0 x1 x2 x3 => k ⟨z0, z1, z2, z3, ⟨y0, y1, y2, y3, y4, y5, ⟨x0, v, x2, x3⟩, y7⟩, z5, z6, z7⟩) y6) z4) e
def s154 : Dv := fun v e k => N8.rec (fun z0 z1 z2 z3 z4 z5 z6 z7 => N8.rec (fun y0 y1 y2 y3 y4 y5 y6 y7 => N4.rec (fun x0 x1 x2 x3 => k ⟨z0, z1, z2, z3, ⟨y0, y1, y2, y3, y4, y5, ⟨x0, x1, v, x3⟩, y7⟩, z5, z6, z7⟩) y6) z4) e
def s155 : Dv := fun v e k => N8.rec (fun z0 z1 z2 z3 z4 z5 z6 z7 => N8.rec (fun y0 y1 y2 y3 y4 y5 y6 y7 => N4.rec (fun x0 x1 x2 x3 => k ⟨z0, z1, z2, z3, ⟨y0, y1, y2, y3, y4, y5, ⟨x0, x1, x2, v⟩, y7⟩, z5, z6, z7⟩) y6) z4) e
def s156 : Dv := fun v e k => N8.rec (fun z0 z1 z2 z3 z4 z5 z6 z7 => N8.rec (fun y0 y1 y2 y3 y4 y5 y6 y7 => N4.rec (fun x0 x1 x2 x3 => k ⟨z0, z1, z2, z3, ⟨y0, y1, y2, y3, y4, y5, y6, ⟨v, x1, x2, x3⟩⟩, z5, z6, z7⟩) y7) z4) e
def s157 : Dv := fun v e k => N8.rec (fun z0 z1 z2 z3 z4 z5 z6 z7 => N8.rec (fun y0 y1 y2 y3 y4 y5 y6 y7 => N4.rec (fun x0 x1 x2 x3 => k ⟨z0, z1, z2, z3, ⟨y0, y1, y2, y3, y4, y5, y6, ⟨x0, v, x2, x3⟩⟩, z5, z6, z7⟩) y7) z4) e
def s158 : Dv := fun v e k => N8.rec (fun z0 z1 z2 z3 z4 z5 z6 z7 => N8.rec (fun y0 y1 y2 y3 y4 y5 y6 y7 => N4.rec (fun x0 x1 x2 x3 => k ⟨z0, z1, z2, z3, ⟨y0, y1, y2, y3, y4, y5, y6, ⟨x0, x1, v, x3⟩⟩, z5, z6, z7⟩) y7) z4) e
def s159 : Dv := fun v e k => N8.rec (fun z0 z1 z2 z3 z4 z5 z6 z7 => N8.rec (fun y0 y1 y2 y3 y4 y5 y6 y7 => N4.rec (fun x0 x1 x2 x3 => k ⟨z0, z1, z2, z3, ⟨y0, y1, y2, y3, y4, y5, y6, ⟨x0, x1, x2, v⟩⟩, z5, z6, z7⟩) y7) z4) e
def s160 : Dv := fun v e k => N8.rec (fun z0 z1 z2 z3 z4 z5 z6 z7 => N8.rec (fun y0 y1 y2 y3 y4 y5 y6 y7 => N4.rec (fun x0 x1 x2 x3 => k ⟨z0, z1, z2, z3, z4, ⟨⟨v, x1, x2, x3⟩, y1, y2, y3, y4, y5, y6, y7⟩, z6, z7⟩) y0) z5) e
def s161 : Dv := fun v e k => N8.rec (fun z0 z1 z2 z3 z4 z5 z6 z7 => N8.rec (fun y0 y1 y2 y3 y4 y5 y6 y7 => N4.rec (fun x0 x1 x2 x3 => k ⟨z0, z1, z2, z3, z4, ⟨⟨x0, v, x2, x3⟩, y1, y2, y3, y4, y5, y6, y7⟩, z6, z7⟩) y0) z5) e
def s162 : Dv := fun v e k => N8.rec (fun z0 z1 z2 z3 z4 z5 z6 z7 => N8.rec (fun y0 y1 y2 y3 y4 y5 y6 y7 => N4.rec (fun x0 x1 x2 x3 => k ⟨z0, z1, z2, z3, z4, ⟨⟨x0, x1, v, x3⟩, y1, y2, y3, y4, y5, y6, y7⟩, z6, z7⟩) y0) z5) e
def s163 : Dv := fun v e k => N8.rec (fun z0 z1 z2 z3 z4 z5 z6 z7 => N8.rec (fun y0 y1 y2 y3 y4 y5 y6 y7 => N4.rec (fun x0 x1 x2 x3 => k ⟨z0, z1, z2, z3, z4, ⟨⟨x0, x1, x2, v⟩, y1, y2, y3, y4, y5, y6, y7⟩, z6, z7⟩) y0) z5) e
def s164 : Dv := fun v e k => N8.rec (fun z0 z1 z2 z3 z4 z5 z6 z7 => N8.rec (fun y0 y1 y2 y3 y4 y5 y6 y7 => N4.rec (fun x0 x1 x2 x3 => k ⟨z0, z1, z2, z3, z4, ⟨y0, ⟨v, x1, x2, x3⟩, y2, y3, y4, y5, y6, y7⟩, z6, z7⟩) y1) z5) e
def s165 : Dv := fun v e k => N8.rec (fun z0 z1 z2 z3 z4 z5 z6 z7 => N8.rec (fun y0 y1 y2 y3 y4 y5 y6 y7 => N4.rec (fun x0 x1 x2 x3 => k ⟨z0, z1, z2, z3, z4, ⟨y0, ⟨x0, v, x2, x3⟩, y2, y3, y4, y5, y6, y7⟩, z6, z7⟩) y1) z5) e
def s166 : Dv := fun v e k => N8.rec (fun z0 z1 z2 z3 z4 z5 z6 z7 => N8.rec (fun y0 y1 y2 y3 y4 y5 y6 y7 => N4.rec (fun x0 x1 x2 x3 => k ⟨z0, z1, z2, z3, z4, ⟨y0, ⟨x0, x1, v, x3⟩, y2, y3, y4, y5, y6, y7⟩, z6, z7⟩) y1) z5) e
def s167 : Dv := fun v e k => N8.rec (fun z0 z1 z2 z3 z4 z5 z6 z7 => N8.rec (fun y0 y1 y2 y3 y4 y5 y6 y7 => N4.rec (fun x0 x1 x2 x3 => k ⟨z0, z1, z2, z3, z4, ⟨y0, ⟨x0, x1, x2, v⟩, y2, y3, y4, y5, y6, y7⟩, z6, z7⟩) y1) z5) e
def s168 : Dv := fun v e k => N8.rec (fun z0 z1 z2 z3 z4 z5 z6 z7 => N8.rec (fun y0 y1 y2 y3 y4 y5 y6 y7 => N4.rec (fun x0 x1 x2 x3 => k ⟨z0, z1, z2, z3, z4, ⟨y0, y1, ⟨v, x1, x2, x3⟩, y3, y4, y5, y6, y7⟩, z6, z7⟩) y2) z5) e
def s169 : Dv := fun v e k => N8.rec (fun z0 z1 z2 z3 z4 z5 z6 z7 => N8.rec (fun y0 y1 y2 y3 y4 y5 y6 y7 => N4.rec (fun x0 x1 x2 x3 => k ⟨z0, z1, z2, z3, z4, ⟨y0, y1, ⟨x0, v, x2, x3⟩, y3, y4, y5, y6, y7⟩, z6, z7⟩) y2) z5) e
def s170 : Dv := fun v e k => N8.rec (fun z0 z1 z2 z3 z4 z5 z6 z7 => N8.rec (fun y0 y1 y2 y3 y4 y5 y6 y7 => N4.rec (fun x0 x1 x2 x3 => k ⟨z0, z1, z2, z3, z4, ⟨y0, y1, ⟨x0, x1, v, x3⟩, y3, y4, y5, y6, y7⟩, z6, z7⟩) y2) z5) e
def s171 : Dv := fun v e k => N8.rec (fun z0 z1 z2 z3 z4 z5 z6 z7 => N8.rec (fun y0 y1 y2 y3 y4 y5 y6 y7 => N4.rec (fun x0 x1 x2 x3 => k ⟨z0, z1, z2, z3, z4, ⟨y0, y1, ⟨x0, x1, x2, v⟩, y3, y4, y5, y6, y7⟩, z6, z7⟩) y2) z5) e
def s172 : Dv := fun v e k => N8.rec (fun z0 z1 z2 z3 z4 z5 z6 z7 => N8.rec (fun y0 y1 y2 y3 y4 y5 y6 y7 => N4.rec (fun x0 x1 x2 x3 => k ⟨z0, z1, z2, z3, z4, ⟨y0, y1, y2, ⟨v, x1, x2, x3⟩, y4, y5, y6, y7⟩, z6, z7⟩) y3) z5) e
def s173 : Dv := fun v e k => N8.rec (fun z0 z1 z2 z3 z4 z5 z6 z7 => N8.rec (fun y0 y1 y2 y3 y4 y5 y6 y7 => N4.rec (fun x0 x1 x2 x3 => k ⟨z0, z1, z2, z3, z4, ⟨y0, y1, y2, ⟨x0, v, x2, x3⟩, y4, y5, y6, y7⟩, z6, z7⟩) y3) z5) e
def s174 : Dv := fun v e k => N8.rec (fun z0 z1 z2 z3 z4 z5 z6 z7 => N8.rec (fun y0 y1 y2 y3 y4 y5 y6 y7 => N4.rec (fun x0 x1 x2 x3 => k ⟨z0, z1, z2, z3, z4, ⟨y0, y1, y2, ⟨x0, x1, v, x3⟩, y4, y5, y6, y7⟩, z6, z7⟩) y3) z5) e
def s175 : Dv := fun v e k => N8.rec (fun z0 z1 z2 z3 z4 z5 z6 z7 => N8.rec (fun y0 y1 y2 y3 y4 y5 y6 y7 => N4.rec (fun x0 x1 x2 x3 => k ⟨z0, z1, z2, z3, z4, ⟨y0, y1, y2, ⟨x0, x1, x2, v⟩, y4, y5, y6, y7⟩, z6, z7⟩) y3) z5) e
def s176 : Dv := fun v e k => N8.rec (fun z0 z1 z2 z3 z4 z5 z6 z7 => N8.rec (fun y0 y1 y2 y3 y4 y5 y6 y7 => N4.rec (fun x0 x1 x2 x3 => k ⟨z0, z1, z2, z3, z4, ⟨y0, y1, y2, y3, ⟨v, x1, x2, x3⟩, y5, y6, y7⟩, z6, z7⟩) y4) z5) e
def s177 : Dv := fun v e k => N8.rec (fun z0 z1 z2 z3 z4 z5 z6 z7 => N8.rec (fun y0 y1 y2 y3 y4 y5 y6 y7 => N4.rec (fun x0 x1 x2 x3 => k ⟨z0, z1, z2, z3, z4, ⟨y0, y1, y2, y3, ⟨x0, v, x2, x3⟩, y5, y6, y7⟩, z6, z7⟩) y4) z5) e
def s178 : Dv := fun v e k => N8.rec (fun z0 z1 z2 z3 z4 z5 z6 z7 => N8.rec (fun y0 y1 y2 y3 y4 y5 y6 y7 => N4.rec (fun x0 x1 x2 x3 => k ⟨z0, z1, z2, z3, z4, ⟨y0, y1, y2, y3, ⟨x0, x1, v, x3⟩, y5, y6, y7⟩, z6, z7⟩) y4) z5) e
def s179 : Dv := fun v e k => N8.rec (fun z0 z1 z2 z3 z4 z5 z6 z7 => N8.rec (fun y0 y1 y2 y3 y4 y5 y6 y7 => N4.rec (fun x0 x1 x2 x3 => k ⟨z0, z1, z2, z3, z4, ⟨y0, y1, y2, y3, ⟨x0, x1, x2, v⟩, y5, y6, y7⟩, z6, z7⟩) y4) z5) e
def s180 : Dv := fun v e k => N8.rec (fun z0 z1 z2 z3 z4 z5 z6 z7 => N8.rec (fun y0 y1 y2 y3 y4 y5 y6 y7 => N4.rec (fun x0 x1 x2 x3 => k ⟨z0, z1, z2, z3, z4, ⟨y0, y1, y2, y3, y4, ⟨v, x1, x2, x3⟩, y6, y7⟩, z6, z7⟩) y5) z5) e
def s181 : Dv := fun v e k => N8.rec (fun z0 z1 z2 z3 z4 z5 z6 z7 => N8.rec (fun y0 y1 y2 y3 y4 y5 y6 y7 => N4.rec (fun x0 x1 x2 x3 => k ⟨z0, z1, z2, z3, z4, ⟨y0, y1, y2, y3, y4, ⟨x0, v, x2, x3⟩, y6, y7⟩, z6, z7⟩) y5) z5) e
def s182 : Dv := fun v e k => N8.rec (fun z0 z1 z2 z3 z4 z5 z6 z7 => N8.rec (fun y0 y1 y2 y3 y4 y5 y6 y7 => N4.rec (fun x0 x1 x2 x3 => k ⟨z0, z1, z2, z3, z4, ⟨y0, y1, y2, y3, y4, ⟨x0, x1, v, x3⟩, y6, y7⟩, z6, z7⟩) y5) z5) e
def s183 : Dv := fun v e k => N8.rec (fun z0 z1 z2 z3 z4 z5 z6 z7 => N8.rec (fun y0 y1 y2 y3 y4 y5 y6 y7 => N4.rec (fun x0 x1 x2 x3 => k ⟨z0, z1, z2, z3, z4, ⟨y0, y1, y2, y3, y4, ⟨x0, x1, x2, v⟩, y6, y7⟩, z6, z7⟩) y5) z5) e
def s184 : Dv := fun v e k => N8.rec (fun z0 z1 z2 z3 z4 z5 z6 z7 => N8.rec (fun y0 y1 y2 y3 y4 y5 y6 y7 => N4.rec (fun x0 x1 x2 x3 => k ⟨z0, z1, z2, z3, z4, ⟨y0, y1, y2, y3, y4, y5, ⟨v, x1, x2, x3⟩, y7⟩, z6, z7⟩) y6) z5) e
def s185 : Dv := fun v e k => N8.rec (fun z0 z1 z2 z3 z4 z5 z6 z7 => N8.rec (fun y0 y1 y2 y3 y4 y5 y6 y7 => N4.rec (fun x0 x1 x2 x3 => k ⟨z0, z1, z2, z3, z4, ⟨y0, y1, y2, y3, y4, y5, ⟨x0, v, x2, x3⟩, y7⟩, z6, z7⟩) y6) z5) e
def s186 : Dv := fun v e k => N8.rec (fun z0 z1 z2 z3 z4 z5 z6 z7 => N8.rec (fun y0 y1 y2 y3 y4 y5 y6 y7 => N4.rec (fun x0 x1 x2 x3 => k ⟨z0, z1, z2, z3, z4, ⟨y0, y1, y2, y3, y4, y5, ⟨x0, x1, v, x3⟩, y7⟩, z6, z7⟩) y6) z5) e
def s187 : Dv := fun v e k => N8.rec (fun z0 z1 z2 z3 z4 z5 z6 z7 => N8.rec (fun y0 y1 y2 y3 y4 y5 y6 y7 => N4.rec (fun x0 x1 x2 x3 => k ⟨z0, z1, z2, z3, z4, ⟨y0, y1, y2, y3, y4, y5, ⟨x0, x1, x2, v⟩, y7⟩, z6, z7⟩) y6) z5) e
def s188 : Dv := fun v e k => N8.rec (fun z0 z1 z2 z3 z4 z5 z6 z7 => N8.rec (fun y0 y1 y2 y3 y4 y5 y6 y7 => N4.rec (fun x0 x1 x2 x3 => k ⟨z0, z1, z2, z3, z4, ⟨y0, y1, y2, y3, y4, y5, y6, ⟨v, x1, x2, x3⟩⟩, z6, z7⟩) y7) z5) e
def s189 : Dv := fun v e k => N8.rec (fun z0 z1 z2 z3 z4 z5 z6 z7 => N8.rec (fun y0 y1 y2 y3 y4 y5 y6 y7 => N4.rec (fun x0 x1 x2 x3 => k ⟨z0, z1, z2, z3, z4, ⟨y0, y1, y2, y3, y4, y5, y6, ⟨x0, v, x2, x3⟩⟩, z6, z7⟩) y7) z5) e
def s190 : Dv := fun v e k => N8.rec (fun z0 z1 z2 z3 z4 z5 z6 z7 => N8.rec (fun y0 y1 y2 y3 y4 y5 y6 y7 => N4.rec (fun x0 x1 x2 x3 => k ⟨z0, z1, z2, z3, z4, ⟨y0, y1, y2, y3, y4, y5, y6, ⟨x0, x1, v, x3⟩⟩, z6, z7⟩) y7) z5) e
def s191 : Dv := fun v e k => N8.rec (fun z0 z1 z2 z3 z4 z5 z6 z7 => N8.rec (fun y0 y1 y2 y3 y4 y5 y6 y7 => N4.rec (fun x0 x1 x2 x3 => k ⟨z0, z1, z2, z3, z4, ⟨y0, y1, y2, y3, y4, y5, y6, ⟨x0, x1, x2, v⟩⟩, z6, z7⟩) y7) z5) e
def s192 : Dv := fun v e k => N8.rec (fun z0 z1 z2 z3 z4 z5 z6 z7 => N8.rec (fun y0 y1 y2 y3 y4 y5 y6 y7 => N4.rec (fun x0 x1 x2 x3 => k ⟨z0, z1, z2, z3, z4, z5, ⟨⟨v, x1, x2, x3⟩, y1, y2, y3, y4, y5, y6, y7⟩, z7⟩) y0) z6) e
def s193 : Dv := fun v e k => N8.rec (fun z0 z1 z2 z3 z4 z5 z6 z7 => N8.rec (fun y0 y1 y2 y3 y4 y5 y6 y7 => N4.rec (fun x0 x1 x2 x3 => k ⟨z0, z1, z2, z3, z4, z5, ⟨⟨x0, v, x2, x3⟩, y1, y2, y3, y4, y5, y6, y7⟩, z7⟩) y0) z6) e
def s194 : Dv := fun v e k => N8.rec (fun z0 z1 z2 z3 z4 z5 z6 z7 => N8.rec (fun y0 y1 y2 y3 y4 y5 y6 y7 => N4.rec (fun x0 x1 x2 x3 => k ⟨z0, z1, z2, z3, z4, z5, ⟨⟨x0, x1, v, x3⟩, y1, y2, y3, y4, y5, y6, y7⟩, z7⟩) y0) z6) e
def s195 : Dv := fun v e k => N8.rec (fun z0 z1 z2 z3 z4 z5 z6 z7 => N8.rec (fun y0 y1 y2 y3 y4 y5 y6 y7 => N4.rec (fun x0 x1 x2 x3 => k ⟨z0, z1, z2, z3, z4, z5, ⟨⟨x0, x1, x2, v⟩, y1, y2, y3, y4, y5, y6, y7⟩, z7⟩) y0) z6) e
def s196 : Dv := fun v e k => N8.rec (fun z0 z1 z2 z3 z4 z5 z6 z7 => N8.rec (fun y0 y1 y2 y3 y4 y5 y6 y7 => N4.rec (fun x0 x1 x2 x3 => k ⟨z0, z1, z2, z3, z4, z5, ⟨y0, ⟨v, x1, x2, x3⟩, y2, y3, y4, y5, y6, y7⟩, z7⟩) y1) z6) e
def s197 : Dv := fun v e k => N8.rec (fun z0 z1 z2 z3 z4 z5 z6 z7 => N8.rec (fun y0 y1 y2 y3 y4 y5 y6 y7 => N4.rec (fun x0 x1 x2 x3 => k ⟨z0, z1, z2, z3, z4, z5, ⟨y0, ⟨x0, v, x2, x3⟩, y2, y3, y4, y5, y6, y7⟩, z7⟩) y1) z6) e
def s198 : Dv := fun v e k => N8.rec (fun z0 z1 z2 z3 z4 z5 z6 z7 => N8.rec (fun y0 y1 y2 y3 y4 y5 y6 y7 => N4.rec (fun x0 x1 x2 x3 => k ⟨z0, z1, z2, z3, z4, z5, ⟨y0, ⟨x0, x1, v, x3⟩, y2, y3, y4, y5, y6, y7⟩, z7⟩) y1) z6) e
def s199 : Dv := fun v e k => N8.rec (fun z0 z1 z2 z3 z4 z5 z6 z7 => N8.rec (fun y0 y1 y2 y3 y4 y5 y6 y7 => N4.rec (fun x0 x1 x2 x3 => k ⟨z0, z1, z2, z3, z4, z5, ⟨y0, ⟨x0, x1, x2, v⟩, y2, y3, y4, y5, y6, y7⟩, z7⟩) y1) z6) e
def s200 : Dv := fun v e k => N8.rec (fun z0 z1 z2 z3 z4 z5 z6 z7 => N8.rec (fun y0 y1 y2 y3 y4 y5 y6 y7 => N4.rec (fun x0 x1 x2 x3 => k ⟨z0, z1, z2, z3, z4, z5, ⟨y0, y1, ⟨v, x1, x2, x3⟩, y3, y4, y5, y6, y7⟩, z7⟩) y2) z6) e
def s201 : Dv := fun v e k => N8.rec (fun z0 z1 z2 z3 z4 z5 z6 z7 => N8.rec (fun y0 y1 y2 y3 y4 y5 y6 y7 => N4.rec (fun x0 x1 x2 x3 => k ⟨z0, z1, z2, z3, z4, z5, ⟨y0, y1, ⟨x0, v, x2, x3⟩, y3, y4, y5, y6, y7⟩, z7⟩) y2) z6) e
def s202 : Dv := fun v e k => N8.rec (fun z0 z1 z2 z3 z4 z5 z6 z7 => N8.rec (fun y0 y1 y2 y3 y4 y5 y6 y7 => N4.rec (fun x0 x1 x2 x3 => k ⟨z0, z1, z2, z3, z4, z5, ⟨y0, y1, ⟨x0, x1, v, x3⟩, y3, y4, y5, y6, y7⟩, z7⟩) y2) z6) e
def s203 : Dv := fun v e k => N8.rec (fun z0 z1 z2 z3 z4 z5 z6 z7 => N8.rec (fun y0 y1 y2 y3 y4 y5 y6 y7 => N4.rec (fun x0 x1 x2 x3 => k ⟨z0, z1, z2, z3, z4, z5, ⟨y0, y1, ⟨x0, x1, x2, v⟩, y3, y4, y5, y6, y7⟩, z7⟩) y2) z6) e
def s204 : Dv := fun v e k => N8.rec (fun z0 z1 z2 z3 z4 z5 z6 z7 => N8.rec (fun y0 y1 y2 y3 y4 y5 y6 y7 => N4.rec (fun x0 x1 x2 x3 => k ⟨z0, z1, z2, z3, z4, z5, ⟨y0, y1, y2, ⟨v, x1, x2, x3⟩, y4, y5, y6, y7⟩, z7⟩) y3) z6) e
def s205 : Dv := fun v e k => N8.rec (fun z0 z1 z2 z3 z4 z5 z6 z7 => N8.rec (fun y0 y1 y2 y3 y4 y5 y6 y7 => N4.rec (fun x0 x1 x2 x3 => k ⟨z0, z1, z2, z3, z4, z5, ⟨y0, y1, y2, ⟨x0, v, x2, x3⟩, y4, y5, y6, y7⟩, z7⟩) y3) z6) e
def s206 : Dv := fun v e k => N8.rec (fun z0 z1 z2 z3 z4 z5 z6 z7 => N8.rec (fun y0 y1 y2 y3 y4 y5 y6 y7 => N4.rec (fun x0 x1 x2 x3 => k ⟨z0, z1, z2, z3, z4, z5, ⟨y0, y1, y2, ⟨x0, x1, v, x3⟩, y4, y5, y6, y7⟩, z7⟩) y3) z6) e
def s207 : Dv := fun v e k => N8.rec (fun z0 z1 z2 z3 z4 z5 z6 z7 => N8.rec (fun y0 y1 y2 y3 y4 y5 y6 y7 => N4.rec (fun x0 x1 x2 x3 => k ⟨z0, z1, z2, z3, z4, z5, ⟨y0, y1, y2, ⟨x0, x1, x2, v⟩, y4, y5, y6, y7⟩, z7⟩) y3) z6) e
def s208 : Dv := fun v e k => N8.rec (fun z0 z1 z2 z3 z4 z5 z6 z7 => N8.rec (fun y0 y1 y2 y3 y4 y5 y6 y7 => N4.rec (fun x0 x1 x2 x3 => k ⟨z0, z1, z2, z3, z4, z5, ⟨y0, y1, y2, y3, ⟨v, x1, x2, x3⟩, y5, y6, y7⟩, z7⟩) y4) z6) e
def s209 : Dv := fun v e k => N8.rec (fun z0 z1 z2 z3 z4 z5 z6 z7 => N8.rec (fun y0 y1 y2 y3 y4 y5 y6 y7 => N4.rec (fun x0 x1 x2 x3 => k ⟨z0, z1, z2, z3, z4, z5, ⟨y0, y1, y2, y3, ⟨x0, v, x2, x3⟩, y5, y6, y7⟩, z7⟩) y4) z6) e
def s210 : Dv := fun v e k => N8.rec (fun z0 z1 z2 z3 z4 z5 z6 z7 => N8.rec (fun y0 y1 y2 y3 y4 y5 y6 y7 => N4.rec (fun x0 x1 x2 x3 => k ⟨z0, z1, z2, z3, z4, z5, ⟨y0, y1, y2, y3, ⟨x0, x1, v, x3⟩, y5, y6, y7⟩, z7⟩) y4) z6) e
def s211 : Dv := fun v e k => N8.rec (fun z0 z1 z2 z3 z4 z5 z6 z7 => N8.rec (fun y0 y1 y2 y3 y4 y5 y6 y7 => N4.rec (fun x0 x1 x2 x3 => k ⟨z0, z1, z2, z3, z4, z5, ⟨y0, y1, y2, y3, ⟨x0, x1, x2, v⟩, y5, y6, y7⟩, z7⟩) y4) z6) e
def s212 : Dv := fun v e k => N8.rec (fun z0 z1 z2 z3 z4 z5 z6 z7 => N8.rec (fun y0 y1 y2 y3 y4 y5 y6 y7 => N4.rec (fun x0 x1 x2 x3 => k ⟨z0, z1, z2, z3, z4, z5, ⟨y0, y1, y2, y3, y4, ⟨v, x1, x2, x3⟩, y6, y7⟩, z7⟩) y5) z6) e
def s213 : Dv := fun v e k => N8.rec (fun z0 z1 z2 z3 z4 z5 z6 z7 => N8.rec (fun y0 y1 y2 y3 y4 y5 y6 y7 => N4.rec (fun x0 x1 x2 x3 => k ⟨z0, z1, z2, z3, z4, z5, ⟨y0, y1, y2, y3, y4, ⟨x0, v, x2, x3⟩, y6, y7⟩, z7⟩) y5) z6) e
def s214 : Dv := fun v e k => N8.rec (fun z0 z1 z2 z3 z4 z5 z6 z7 => N8.rec (fun y0 y1 y2 y3 y4 y5 y6 y7 => N4.rec (fun x0 x1 x2 x3 => k ⟨z0, z1, z2, z3, z4, z5, ⟨y0, y1, y2, y3, y4, ⟨x0, x1, v, x3⟩, y6, y7⟩, z7⟩) y5) z6) e
def s215 : Dv := fun v e k => N8.rec (fun z0 z1 z2 z3 z4 z5 z6 z7 => N8.rec (fun y0 y1 y2 y3 y4 y5 y6 y7 => N4.rec (fun x0 x1 x2 x3 => k ⟨z0, z1, z2, z3, z4, z5, ⟨y0, y1, y2, y3, y4, ⟨x0, x1, x2, v⟩, y6, y7⟩, z7⟩) y5) z6) e
def s216 : Dv := fun v e k => N8.rec (fun z0 z1 z2 z3 z4 z5 z6 z7 => N8.rec (fun y0 y1 y2 y3 y4 y5 y6 y7 => N4.rec (fun x0 x1 x2 x3 => k ⟨z0, z1, z2, z3, z4, z5, ⟨y0, y1, y2, y3, y4, y5, ⟨v, x1, x2, x3⟩, y7⟩, z7⟩) y6) z6) e
def s217 : Dv := fun v e k => N8.rec (fun z0 z1 z2 z3 z4 z5 z6 z7 => N8.rec (fun y0 y1 y2 y3 y4 y5 y6 y7 => N4.rec (fun x0 x1 x2 x3 => k ⟨z0, z1, z2, z3, z4, z5, ⟨y0, y1, y2, y3, y4, y5, ⟨x0, v, x2, x3⟩, y7⟩, z7⟩) y6) z6) e
def s218 : Dv := fun v e k => N8.rec (fun z0 z1 z2 z3 z4 z5 z6 z7 => N8.rec (fun y0 y1 y2 y3 y4 y5 y6 y7 => N4.rec (fun x0 x1 x2 x3 => k ⟨z0, z1, z2, z3, z4, z5, ⟨y0, y1, y2, y3, y4, y5, ⟨x0, x1, v, x3⟩, y7⟩, z7⟩) y6) z6) e
def s219 : Dv := fun v e k => N8.rec (fun z0 z1 z2 z3 z4 z5 z6 z7 => N8.rec (fun y0 y1 y2 y3 y4 y5 y6 y7 => N4.rec (fun x0 x1 x2 x3 => k ⟨z0, z1, z2, z3, z4, z5, ⟨y0, y1, y2, y3, y4, y5, ⟨x0, x1, x2, v⟩, y7⟩, z7⟩) y6) z6) e
def s220 : Dv := fun v e k => N8.rec (fun z0 z1 z2 z3 z4 z5 z6 z7 => N8.rec (fun y0 y1 y2 y3 y4 y5 y6 y7 => N4.rec (fun x0 x1 x2 x3 => k ⟨z0, z1, z2, z3, z4, z5, ⟨y0, y1, y2, y3, y4, y5, y6, ⟨v, x1, x2, x3⟩⟩, z7⟩) y7) z6) e
def s221 : Dv := fun v e k => N8.rec (fun z0 z1 z2 z3 z4 z5 z6 z7 => N8.rec (fun y0 y1 y2 y3 y4 y5 y6 y7 => N4.rec (fun x0 x1 x2 x3 => k ⟨z0, z1, z2, z3, z4, z5, ⟨y0, y1, y2, y3, y4, y5, y6, ⟨x0, v, x2, x3⟩⟩, z7⟩) y7) z6) e
def s222 : Dv := fun v e k => N8.rec (fun z0 z1 z2 z3 z4 z5 z6 z7 => N8.rec (fun y0 y1 y2 y3 y4 y5 y6 y7 => N4.rec (fun x0 x1 x2 x3 => k ⟨z0, z1, z2, z3, z4, z5, ⟨y0, y1, y2, y3, y4, y5, y6, ⟨x0, x1, v, x3⟩⟩, z7⟩) y7) z6) e
def s223 : Dv := fun v e k => N8.rec (fun z0 z1 z2 z3 z4 z5 z6 z7 => N8.rec (fun y0 y1 y2 y3 y4 y5 y6 y7 => N4.rec (fun x0 x1 x2 x3 => k ⟨z0, z1, z2, z3, z4, z5, ⟨y0, y1, y2, y3, y4, y5, y6, ⟨x0, x1, x2, v⟩⟩, z7⟩) y7) z6) e
def s224 : Dv := fun v e k => N8.rec (fun z0 z1 z2 z3 z4 z5 z6 z7 => N8.rec (fun y0 y1 y2 y3 y4 y5 y6 y7 => N4.rec (fun x0 x1 x2 x3 => k ⟨z0, z1, z2, z3, z4, z5, z6, ⟨⟨v, x1, x2, x3⟩, y1, y2, y3, y4, y5, y6, y7⟩⟩) y0) z7) e
def s225 : Dv := fun v e k => N8.rec (fun z0 z1 z2 z3 z4 z5 z6 z7 => N8.rec (fun y0 y1 y2 y3 y4 y5 y6 y7 => N4.rec (fun x0 x1 x2 x3 => k ⟨z0, z1, z2, z3, z4, z5, z6, ⟨⟨x0, v, x2, x3⟩, y1, y2, y3, y4, y5, y6, y7⟩⟩) y0) z7) e
def s226 : Dv := fun v e k => N8.rec (fun z0 z1 z2 z3 z4 z5 z6 z7 => N8.rec (fun y0 y1 y2 y3 y4 y5 y6 y7 => N4.rec (fun x0 x1 x2 x3 => k ⟨z0, z1, z2, z3, z4, z5, z6, ⟨⟨x0, x1, v, x3⟩, y1, y2, y3, y4, y5, y6, y7⟩⟩) y0) z7) e
def s227 : Dv := fun v e k => N8.rec (fun z0 z1 z2 z3 z4 z5 z6 z7 => N8.rec (fun y0 y1 y2 y3 y4 y5 y6 y7 => N4.rec (fun x0 x1 x2 x3 => k ⟨z0, z1, z2, z3, z4, z5, z6, ⟨⟨x0, x1, x2, v⟩, y1, y2, y3, y4, y5, y6, y7⟩⟩) y0) z7) e
def s228 : Dv := fun v e k => N8.rec (fun z0 z1 z2 z3 z4 z5 z6 z7 => N8.rec (fun y0 y1 y2 y3 y4 y5 y6 y7 => N4.rec (fun x0 x1 x2 x3 => k ⟨z0, z1, z2, z3, z4, z5, z6, ⟨y0, ⟨v, x1, x2, x3⟩, y2, y3, y4, y5, y6, y7⟩⟩) y1) z7) e
def s229 : Dv := fun v e k => N8.rec (fun z0 z1 z2 z3 z4 z5 z6 z7 => N8.rec (fun y0 y1 y2 y3 y4 y5 y6 y7 => N4.rec (fun x0 x1 x2 x3 => k ⟨z0, z1, z2, z3, z4, z5, z6, ⟨y0, ⟨x0, v, x2, x3⟩, y2, y3, y4, y5, y6, y7⟩⟩) y1) z7) e
def s230 : Dv := fun v e k => N8.rec (fun z0 z1 z2 z3 z4 z5 z6 z7 => N8.rec (fun y0 y1 y2 y3 y4 y5 y6 y7 => N4.rec (fun x0 x1 x2 x3 => k ⟨z0, z1, z2, z3, z4, z5, z6, ⟨y0, ⟨x0, x1, v, x3⟩, y2, y3, y4, y5, y6, y7⟩⟩) y1) z7) e
def s231 : Dv := fun v e k => N8.rec (fun z0 z1 z2 z3 z4 z5 z6 z7 => N8.rec (fun y0 y1 y2 y3 y4 y5 y6 y7 => N4.rec (fun x0 x1 x2 x3 => k ⟨z0, z1, z2, z3, z4, z5, z6, ⟨y0, ⟨x0, x1, x2, v⟩, y2, y3, y4, y5, y6, y7⟩⟩) y1) z7) e
def s232 : Dv := fun v e k => N8.rec (fun z0 z1 z2 z3 z4 z5 z6 z7 => N8.rec (fun y0 y1 y2 y3 y4 y5 y6 y7 => N4.rec (fun x0 x1 x2 x3 => k ⟨z0, z1, z2, z3, z4, z5, z6, ⟨y0, y1, ⟨v, x1, x2, x3⟩, y3, y4, y5, y6, y7⟩⟩) y2) z7) e
def s233 : Dv := fun v e k => N8.rec (fun z0 z1 z2 z3 z4 z5 z6 z7 => N8.rec (fun y0 y1 y2 y3 y4 y5 y6 y7 => N4.rec (fun x0 x1 x2 x3 => k ⟨z0, z1, z2, z3, z4, z5, z6, ⟨y0, y1, ⟨x0, v, x2, x3⟩, y3, y4, y5, y6, y7⟩⟩) y2) z7) e
def s234 : Dv := fun v e k => N8.rec (fun z0 z1 z2 z3 z4 z5 z6 z7 => N8.rec (fun y0 y1 y2 y3 y4 y5 y6 y7 => N4.rec (fun x0 x1 x2 x3 => k ⟨z0, z1, z2, z3, z4, z5, z6, ⟨y0, y1, ⟨x0, x1, v, x3⟩, y3, y4, y5, y6, y7⟩⟩) y2) z7) e
def s235 : Dv := fun v e k => N8.rec (fun z0 z1 z2 z3 z4 z5 z6 z7 => N8.rec (fun y0 y1 y2 y3 y4 y5 y6 y7 => N4.rec (fun x0 x1 x2 x3 => k ⟨z0, z1, z2, z3, z4, z5, z6, ⟨y0, y1, ⟨x0, x1, x2, v⟩, y3, y4, y5, y6, y7⟩⟩) y2) z7) e
def s236 : Dv := fun v e k => N8.rec (fun z0 z1 z2 z3 z4 z5 z6 z7 => N8.rec (fun y0 y1 y2 y3 y4 y5 y6 y7 => N4.rec (fun x0 x1 x2 x3 => k ⟨z0, z1, z2, z3, z4, z5, z6, ⟨y0, y1, y2, ⟨v, x1, x2, x3⟩, y4, y5, y6, y7⟩⟩) y3) z7) e
def s237 : Dv := fun v e k => N8.rec (fun z0 z1 z2 z3 z4 z5 z6 z7 => N8.rec (fun y0 y1 y2 y3 y4 y5 y6 y7 => N4.rec (fun x0 x1 x2 x3 => k ⟨z0, z1, z2, z3, z4, z5, z6, ⟨y0, y1, y2, ⟨x0, v, x2, x3⟩, y4, y5, y6, y7⟩⟩) y3) z7) e
def s238 : Dv := fun v e k => N8.rec (fun z0 z1 z2 z3 z4 z5 z6 z7 => N8.rec (fun y0 y1 y2 y3 y4 y5 y6 y7 => N4.rec (fun x0 x1 x2 x3 => k ⟨z0, z1, z2, z3, z4, z5, z6, ⟨y0, y1, y2, ⟨x0, x1, v, x3⟩, y4, y5, y6, y7⟩⟩) y3) z7) e
def s239 : Dv := fun v e k => N8.rec (fun z0 z1 z2 z3 z4 z5 z6 z7 => N8.rec (fun y0 y1 y2 y3 y4 y5 y6 y7 => N4.rec (fun x0 x1 x2 x3 => k ⟨z0, z1, z2, z3, z4, z5, z6, ⟨y0, y1, y2, ⟨x0, x1, x2, v⟩, y4, y5, y6, y7⟩⟩) y3) z7) e
def s240 : Dv := fun v e k => N8.rec (fun z0 z1 z2 z3 z4 z5 z6 z7 => N8.rec (fun y0 y1 y2 y3 y4 y5 y6 y7 => N4.rec (fun x0 x1 x2 x3 => k ⟨z0, z1, z2, z3, z4, z5, z6, ⟨y0, y1, y2, y3, ⟨v, x1, x2, x3⟩, y5, y6, y7⟩⟩) y4) z7) e
def s241 : Dv := fun v e k => N8.rec (fun z0 z1 z2 z3 z4 z5 z6 z7 => N8.rec (fun y0 y1 y2 y3 y4 y5 y6 y7 => N4.rec (fun x0 x1 x2 x3 => k ⟨z0, z1, z2, z3, z4, z5, z6, ⟨y0, y1, y2, y3, ⟨x0, v, x2, x3⟩, y5, y6, y7⟩⟩) y4) z7) e
def s242 : Dv := fun v e k => N8.rec (fun z0 z1 z2 z3 z4 z5 z6 z7 => N8.rec (fun y0 y1 y2 y3 y4 y5 y6 y7 => N4.rec (fun x0 x1 x2 x3 => k ⟨z0, z1, z2, z3, z4, z5, z6, ⟨y0, y1, y2, y3, ⟨x0, x1, v, x3⟩, y5, y6, y7⟩⟩) y4) z7) e
def s243 : Dv := fun v e k => N8.rec (fun z0 z1 z2 z3 z4 z5 z6 z7 => N8.rec (fun y0 y1 y2 y3 y4 y5 y6 y7 => N4.rec (fun x0 x1 x2 x3 => k ⟨z0, z1, z2, z3, z4, z5, z6, ⟨y0, y1, y2, y3, ⟨x0, x1, x2, v⟩, y5, y6, y7⟩⟩) y4) z7) e
def s244 : Dv := fun v e k => N8.rec (fun z0 z1 z2 z3 z4 z5 z6 z7 => N8.rec (fun y0 y1 y2 y3 y4 y5 y6 y7 => N4.rec (fun x0 x1 x2 x3 => k ⟨z0, z1, z2, z3, z4, z5, z6, ⟨y0, y1, y2, y3, y4, ⟨v, x1, x2, x3⟩, y6, y7⟩⟩) y5) z7) e
def s245 : Dv := fun v e k => N8.rec (fun z0 z1 z2 z3 z4 z5 z6 z7 => N8.rec (fun y0 y1 y2 y3 y4 y5 y6 y7 => N4.rec (fun x0 x1 x2 x3 => k ⟨z0, z1, z2, z3, z4, z5, z6, ⟨y0, y1, y2, y3, y4, ⟨x0, v, x2, x3⟩, y6, y7⟩⟩) y5) z7) e
def s246 : Dv := fun v e k => N8.rec (fun z0 z1 z2 z3 z4 z5 z6 z7 => N8.rec (fun y0 y1 y2 y3 y4 y5 y6 y7 => N4.rec (fun x0 x1 x2 x3 => k ⟨z0, z1, z2, z3, z4, z5, z6, ⟨y0, y1, y2, y3, y4, ⟨x0, x1, v, x3⟩, y6, y7⟩⟩) y5) z7) e
def s247 : Dv := fun v e k => N8.rec (fun z0 z1 z2 z3 z4 z5 z6 z7 => N8.rec (fun y0 y1 y2 y3 y4 y5 y6 y7 => N4.rec (fun x0 x1 x2 x3 => k ⟨z0, z1, z2, z3, z4, z5, z6, ⟨y0, y1, y2, y3, y4, ⟨x0, x1, x2, v⟩, y6, y7⟩⟩) y5) z7) e
def s248 : Dv := fun v e k => N8.rec (fun z0 z1 z2 z3 z4 z5 z6 z7 => N8.rec (fun y0 y1 y2 y3 y4 y5 y6 y7 => N4.rec (fun x0 x1 x2 x3 => k ⟨z0, z1, z2, z3, z4, z5, z6, ⟨y0, y1, y2, y3, y4, y5, ⟨v, x1, x2, x3⟩, y7⟩⟩) y6) z7) e
def s249 : Dv := fun v e k => N8.rec (fun z0 z1 z2 z3 z4 z5 z6 z7 => N8.rec (fun y0 y1 y2 y3 y4 y5 y6 y7 => N4.rec (fun x0 x1 x2 x3 => k ⟨z0, z1, z2, z3, z4, z5, z6, ⟨y0, y1, y2, y3, y4, y5, ⟨x0, v, x2, x3⟩, y7⟩⟩) y6) z7) e
def s250 : Dv := fun v e k => N8.rec (fun z0 z1 z2 z3 z4 z5 z6 z7 => N8.rec (fun y0 y1 y2 y3 y4 y5 y6 y7 => N4.rec (fun x0 x1 x2 x3 => k ⟨z0, z1, z2, z3, z4, z5, z6, ⟨y0, y1, y2, y3, y4, y5, ⟨x0, x1, v, x3⟩, y7⟩⟩) y6) z7) e
def s251 : Dv := fun v e k => N8.rec (fun z0 z1 z2 z3 z4 z5 z6 z7 => N8.rec (fun y0 y1 y2 y3 y4 y5 y6 y7 => N4.rec (fun x0 x1 x2 x3 => k ⟨z0, z1, z2, z3, z4, z5, z6, ⟨y0, y1, y2, y3, y4, y5, ⟨x0, x1, x2, v⟩, y7⟩⟩) y6) z7) e
def s252 : Dv := fun v e k => N8.rec (fun z0 z1 z2 z3 z4 z5 z6 z7 => N8.rec (fun y0 y1 y2 y3 y4 y5 y6 y7 => N4.rec (fun x0 x1 x2 x3 => k ⟨z0, z1, z2, z3, z4, z5, z6, ⟨y0, y1, y2, y3, y4, y5, y6, ⟨v, x1, x2, x3⟩⟩⟩) y7) z7) e
def s253 : Dv := fun v e k => N8.rec (fun z0 z1 z2 z3 z4 z5 z6 z7 => N8.rec (fun y0 y1 y2 y3 y4 y5 y6 y7 => N4.rec (fun x0 x1 x2 x3 => k ⟨z0, z1, z2, z3, z4, z5, z6, ⟨y0, y1, y2, y3, y4, y5, y6, ⟨x0, v, x2, x3⟩⟩⟩) y7) z7) e
def s254 : Dv := fun v e k => N8.rec (fun z0 z1 z2 z3 z4 z5 z6 z7 => N8.rec (fun y0 y1 y2 y3 y4 y5 y6 y7 => N4.rec (fun x0 x1 x2 x3 => k ⟨z0, z1, z2, z3, z4, z5, z6, ⟨y0, y1, y2, y3, y4, y5, y6, ⟨x0, x1, v, x3⟩⟩⟩) y7) z7) e
def s255 : Dv := fun v e k => N8.rec (fun z0 z1 z2 z3 z4 z5 z6 z7 => N8.rec (fun y0 y1 y2 y3 y4 y5 y6 y7 => N4.rec (fun x0 x1 x2 x3 => k ⟨z0, z1, z2, z3, z4, z5, z6, ⟨y0, y1, y2, y3, y4, y5, y6, ⟨x0, x1, x2, v⟩⟩⟩) y7) z7) e
end Go.Proofs.YtfiambjmphjjgaaGreatDoor.Ms
