import Derived.Test.YtjonhijmljhjlaaGreatYITBase
namespace Go.Abs
end Go.Abs
