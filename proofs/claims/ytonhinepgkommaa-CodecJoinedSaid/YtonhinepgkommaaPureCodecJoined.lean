/- The pure statement of CodecJoined. -/
import Derived.Test.YtonhinepgkommaaPureBack
namespace Go.Proofs.Ytonhinepgkommaa.Pure
theorem CodecJoined : Go.Proofs.Ytonhinepgkommaa.Q.seamarklaw08_CodecJoined.Pure := Go.Proofs.YtonhinepgkommaaM.CodecJoined
end Go.Proofs.Ytonhinepgkommaa.Pure
