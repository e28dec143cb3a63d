/- The pure statement of CodecBack. -/
import Derived.Test.YtonhinepgkommaaPureBack
namespace Go.Proofs.Ytonhinepgkommaa.Pure
theorem CodecBack : Go.Proofs.Ytonhinepgkommaa.Q.seamarklaw08_CodecBack.Pure := Go.Proofs.YtonhinepgkommaaM.CodecBack
end Go.Proofs.Ytonhinepgkommaa.Pure
