/- The pure statement of CodecDigests. -/
import Derived.Test.YtonhinepgkommaaMDigest
namespace Go.Proofs.Ytonhinepgkommaa.Pure
theorem CodecDigests : Go.Proofs.Ytonhinepgkommaa.Q.seamarklaw08_CodecDigests.Pure := Go.Proofs.YtonhinepgkommaaM.CodecDigests
end Go.Proofs.Ytonhinepgkommaa.Pure
