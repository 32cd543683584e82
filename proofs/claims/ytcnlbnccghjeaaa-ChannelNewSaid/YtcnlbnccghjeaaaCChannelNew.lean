/- The law ChannelNew answers yes at every number of displays it is asked: the channel is made for one to sixteen displays, refused for any other number, and is empty when it is made. -/
import Derived.Test.YtcnlbnccghjeaaaRChannelNew
import Derived.Test.YtcnlbnccghjeaaaNewP
namespace Go.Proofs.Ytcnlbnccghjeaaa
open Go
theorem channelNew_holds : Rows.ChannelNewSaid := W.channelNew_of W.new_pure
end Go.Proofs.Ytcnlbnccghjeaaa
