/- The law ChannelKeeps answers yes for every list of operations: the numbers under way are in order, those ready are among them, and those under way, delivered and dropped add up to those sent. -/
import Derived.Test.YtcnlbnccghjeaaaRChannelKeeps
import Derived.Test.YtcnlbnccghjeaaaKeepsP
namespace Go.Proofs.Ytcnlbnccghjeaaa
open Go
theorem channelKeeps_holds : Rows.ChannelKeepsSaid := W.channelKeeps_of W.keeps_pure
end Go.Proofs.Ytcnlbnccghjeaaa
