/- Written by this repo's own program out of its texts. -/
import Derived.Test.YtlhagkbhojmjpaaGreatDoorPS1
set_option linter.unusedSimpArgs false
set_option linter.unusedVariables false
set_option linter.unusedSectionVars false
namespace Go.Proofs.YtlhagkbhojmjpaaGreatDoor
def i0 (sb : E) : E := .o2 .idx sb (.int 0)
def rq0 (sb : E) (t : Tree) : Tree := .req (.o2 .lti (.int 0) (.o1 .len sb)) t
def rqi (sb : E) (i : Nat) (t : Tree) : Tree := .req (.o2 .lei (.int 0) (.v i)) (.req (.o2 .lti (.v i) (.o1 .len sb)) t)
def ltNo : Tree := .back 3 [(.str []), (.int 0)]
def spC (d : Nat) (sb : E) : Tree := rqi sb (d + 1) (.call 7 [(.o2 .idx sb (.v (d + 1)))]
 (.br (.o1 .no (.v (d + 2))) ltNo
  (rqi sb (d + 1) (.br (.o1 .no (.o2 .eqi (.o1 .slen (.o2 .idx sb (.v (d + 1)))) (.int 1))) ltNo
   (rqi sb (d + 1) (.req (.o2 .lei (.o1 .slen (.o2 .cat (.v d) (.o2 .idx sb (.v (d + 1))))) (.int 9223372036854775807)) (.back 4 [(.o2 .cat (.v d) (.o2 .idx sb (.v (d + 1)))), (.o2 (.add .i64) (.v (d + 1)) (.int 1))])))))))
def spT (d : Nat) (sb : E) : Tree := rq0 sb (.br (.o2 .eqs (i0 sb) (.str [115, 112, 101, 108, 108, 101, 100]))
 (.loop [(.str []), (.int 1)]
  (.br (.o2 .lti (.v (d + 1)) (.o1 .len sb))
   (rqi sb (d + 1) (.br (.o2 .eqs (.o2 .idx sb (.v (d + 1))) (.str [101, 110, 100]))
    (.br (.o1 .no (.o2 .eqs (.v d) (.str [])))
     (.back 3 [(.v d), (.o2 (.add .i64) (.v (d + 1)) (.int 1))])
     (spC d sb))
    (spC d sb)))
   ltNo))
 ltNo)
def plT (d : Nat) (sb : E) : Tree := rq0 sb (.call 7 [i0 sb]
 (.br (.v d)
  (rq0 sb (.br (.o1 .no (.o2 (.mget true) (.v 1) (i0 sb)))
   (rq0 sb (.back 3 [i0 sb, (.int 1)]))
   (spT (d + 1) sb)))
  (spT (d + 1) sb)))
def litT (d : Nat) (sb : E) : Tree := .br (.o2 .eqi (.o1 .len sb) (.int 0)) ltNo
 (rq0 sb (.br (.o2 .eqs (i0 sb) (.str [119, 111, 114, 100]))
  (.br (.o2 .lti (.int 1) (.o1 .len sb))
   (.req (.o2 .lti (.int 1) (.o1 .len sb)) (.call 7 [(.o2 .idx sb (.int 1))]
    (.br (.v d)
     (.req (.o2 .lti (.int 1) (.o1 .len sb)) (.back 3 [(.o2 .idx sb (.int 1)), (.int 2)]))
     (plT (d + 1) sb))))
   (plT d sb))
  (plT d sb)))
def txG1 (y t : E) (d : Nat) : E := .o1 .agg (.cons (.o3 .ssub t (.v d) (.o2 (.add .i64) (.v d) (.int 1))) (.cons (.bool false) (.cons y .nil)))
def txL (k d : Nat) (y t o : E) : Tree := .loop [(.int 0), o]
 (.br (.o2 .lti (.v d) (.o1 .slen t))
  (.req (.o2 .lei (.int 0) (.v d)) (.req (.o2 .lei (.v d) (.o2 (.add .i64) (.v d) (.int 1))) (.req (.o2 .lei (.int 0) (.o2 (.add .i64) (.v d) (.int 1))) (.req (.o2 .lei (.o2 (.add .i64) (.v d) (.int 1)) (.o1 .slen t))
   (.req (.o2 .lei (.o1 .len (.o2 .app (.v (d + 1)) (.cons (txG1 y t d) .nil))) (.int 1099511627776))
    (.back (k + 1) [(.o2 (.add .i64) (.v d) (.int 1)), (.o2 .app (.v (d + 1)) (.cons (txG1 y t d) .nil))]))))))
  (.back k [(.bool true), (.v (d + 1))]))
def txB (y o : E) : E := .o2 .app o (.cons (.o1 .agg (.cons (.str [32]) (.cons (.bool false) (.cons y .nil)))) .nil)
def txT (k d : Nat) (j o y t : E) : Tree := .br j (.req (.o2 .lei (.o1 .len (txB y o)) (.int 1099511627776)) (txL k d y t (txB y o))) (txL k d y t o)
end Go.Proofs.YtlhagkbhojmjpaaGreatDoor
