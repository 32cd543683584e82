/- The law ChannelFull answers yes for every number and every frame: a channel takes 4096 frames and not one more, and takes one again when one has been delivered. -/
import Derived.Test.YtcnlbnccghjeaaaRChannelFull
import Derived.Test.YtcnlbnccghjeaaaFullP
namespace Go.Proofs.Ytcnlbnccghjeaaa
open Go
theorem channelFull_holds : Rows.ChannelFullSaid := W.channelFull_of W.full_pure
end Go.Proofs.Ytcnlbnccghjeaaa
