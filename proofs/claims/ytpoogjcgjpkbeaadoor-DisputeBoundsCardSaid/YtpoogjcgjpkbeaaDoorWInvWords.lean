-- PRINTED BY print.sh 35421559b90ae4d0a3588c463048766b98c2df88dd9212a6774a882060cdf62d: not written by this session
import Derived.Test.YtpoogjcgjpkbeaaDoorWInv
import Derived.Test.YtpoogjcgjpkbeaaDoorWFootNe
namespace Go.Proofs.YtpoogjcgjpkbeaaDoorW.PrintWords
open Go.RowKit
end Go.Proofs.YtpoogjcgjpkbeaaDoorW.PrintWords
namespace Go.Proofs.YtpoogjcgjpkbeaaDoorW.PrintLast
end Go.Proofs.YtpoogjcgjpkbeaaDoorW.PrintLast
