/- The law ChannelCarries answers yes for every list of operations and every frame: a frame and its repeat come out as sent, but for the one byte that was damaged. -/
import Derived.Test.YtcnlbnccghjeaaaRChannelCarries
import Derived.Test.YtcnlbnccghjeaaaCarrP
namespace Go.Proofs.Ytcnlbnccghjeaaa
open Go
theorem channelCarries_holds : Rows.ChannelCarriesSaid := W.channelCarries_of W.carries_pure
end Go.Proofs.Ytcnlbnccghjeaaa
