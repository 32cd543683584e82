/- The law ChannelConnects answers yes for every list of operations and every order: with all displays connected, all that is under way can be delivered in that order, each once. -/
import Derived.Test.YtcnlbnccghjeaaaRChannelConnects
import Derived.Test.YtcnlbnccghjeaaaConnP
namespace Go.Proofs.Ytcnlbnccghjeaaa
open Go
theorem channelConnects_holds : Rows.ChannelConnectsSaid := W.channelConnects_of W.conn_pure
end Go.Proofs.Ytcnlbnccghjeaaa
