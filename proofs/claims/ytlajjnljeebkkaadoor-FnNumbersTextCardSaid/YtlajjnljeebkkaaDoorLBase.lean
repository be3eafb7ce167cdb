import Derived.Test.YtlajjnljeebkkaaDoorNT3
import Derived.Test.YtlajjnljeebkkaaDoorLLoop
import Derived.Test.YtlajjnljeebkkaaDoorTGlue
namespace Go.Proofs.TM
open Go Go.Proofs
set_option maxHeartbeats 1000000
theorem w1 {i:Nat} (h:i<9223372036854775807):IntKind.i64.wrap ((i:Int)+1)=(i:Int)+1:=wrap_in (by omega) (by omega)
theorem dF {Q:Prop} {d:Decidable Q} (h:¬Q):some false=some (@decide Q d):=by rw[decide_eq_false h]
theorem dI {P Q:Prop} {d:Decidable P} {d':Decidable Q} (h:P↔Q):some (@decide P d)=some (@decide Q d'):=by
 by_cases hp:P
 ·rw[decide_eq_true hp,decide_eq_true (h.1 hp)]
 ·rw[decide_eq_false hp,decide_eq_false (fun q=>hp (h.2 q))]
theorem subL_from {α:Type} (s:List α) (k:Nat) (h:k≤s.length):subL s (some (k:Int)) none=some (s.drop k):=by
 simp[subL,bound,h]
theorem subL_to {α:Type} (s:List α) (k:Nat) (h:k≤s.length):subL s none (some (k:Int))=some (s.take k):=by
 simp[subL,bound,h]
end Go.Proofs.TM
