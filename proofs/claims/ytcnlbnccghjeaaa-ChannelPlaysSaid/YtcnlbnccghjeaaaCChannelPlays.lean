/- The law ChannelPlays answers yes for every list of operations: the channel and the reference answer each operation alike, and hold the same frames after it. -/
import Derived.Test.YtcnlbnccghjeaaaRChannelPlays
import Derived.Test.YtcnlbnccghjeaaaPlayP
namespace Go.Proofs.Ytcnlbnccghjeaaa
open Go
theorem channelPlays_holds : Rows.ChannelPlaysSaid := W.channelPlays_of W.plays_pure
end Go.Proofs.Ytcnlbnccghjeaaa
