/- The tables of the seat's program for the symbolic executor: types, functions. PRINTED by gen_tab.py. The tables of the symbolic executor are the program's. PRINTED by gen_su.py. -/
import Derived.Test.YtdgejnakakjgfaaGreatDoorProg
import Derived.Test.YtdgejnakakjgfaaGreatDoorR00
import Derived.Test.YtdgejnakakjgfaaGreatDoorR05
set_option linter.unusedVariables false
set_option linter.unusedSimpArgs false
set_option maxRecDepth 100000
namespace Go.Proofs.YtdgejnakakjgfaaGreatDoor
section
namespace SE
def tyT7:Tr TY:=.nd (some ⟨.str [(2,0),(3,1),(4,2),(6,3)],4,24,[.int .i64 (.r 0 0),.int .i64 (.r 0 0),.ff,.int .u8 (.r 0 0)]⟩) (.nd (some ⟨.ptr 337,1,8,[.nilp]⟩) (.nd (some ⟨.ptr 71,1,8,[.nilp]⟩) (.nd (some ⟨.func,1,8,[.nilf]⟩) (.nd (some ⟨.func,1,8,[.nilf]⟩) (.nd (some ⟨.func,1,8,[.nilf]⟩) (.lf) (.lf)) (.lf)) (.nd (some ⟨.arr 10 5,10,10,rep 10 (.int .u8 (.r 0 0))⟩) (.nd none (.lf) (.lf)) (.lf))) (.nd (some ⟨.func,1,8,[.nilf]⟩) (.nd (some ⟨.func,1,8,[.nilf]⟩) (.nd (some ⟨.func,1,8,[.nilf]⟩) (.lf) (.lf)) (.lf)) (.nd (some ⟨.func,1,8,[.nilf]⟩) (.lf) (.lf)))) (.nd (some ⟨.str [(3,0),(3,1),(23,2),(46,3),(4,9)],10,96,[.int .i64 (.r 0 0),.int .i64 (.r 0 0),.nils,.ff,.int .i64 (.r 0 0),.int .i64 (.r 0 0),.int .i64 (.r 0 0),.int .i64 (.r 0 0),.ff,.ff]⟩) (.nd (some ⟨.str [(61,0)],1,24,[.nils]⟩) (.nd (some ⟨.arr 3 142,117,264,[.ff,.int .i64 (.r 0 0),.int .i64 (.r 0 0),.int .i64 (.r 0 0),.int .u8 (.r 0 0),.int .u8 (.r 0 0),.int .u8 (.r 0 0),.int .u8 (.r 0 0),.int .u8 (.r 0 0),.int .u8 (.r 0 0),.int .u8 (.r 0 0),.int .u8 (.r 0 0),.int .u8 (.r 0 0),.int .u8 (.r 0 0),.int .u8 (.r 0 0),.int .u8 (.r 0 0),.int .u8 (.r 0 0),.int .u8 (.r 0 0),.int .u8 (.r 0 0),.int .u8 (.r 0 0),.int .u8 (.r 0 0),.int .u8 (.r 0 0),.int .u8 (.r 0 0),.int .u8 (.r 0 0),.int .u8 (.r 0 0),.int .u8 (.r 0 0),.int .u8 (.r 0 0),.int .u8 (.r 0 0),.int .u8 (.r 0 0),.int .u8 (.r 0 0),.int .u8 (.r 0 0),.int .u8 (.r 0 0),.int .u8 (.r 0 0),.int .u8 (.r 0 0),.int .u8 (.r 0 0),.int .u8 (.r 0 0),.ff,.int .i64 (.r 0 0),.int .u64 (.r 0 0),.ff,.int .i64 (.r 0 0),.int .i64 (.r 0 0),.int .i64 (.r 0 0),.int .u8 (.r 0 0),.int .u8 (.r 0 0),.int .u8 (.r 0 0),.int .u8 (.r 0 0),.int .u8 (.r 0 0),.int .u8 (.r 0 0),.int .u8 (.r 0 0),.int .u8 (.r 0 0),.int .u8 (.r 0 0),.int .u8 (.r 0 0),.int .u8 (.r 0 0),.int .u8 (.r 0 0),.int .u8 (.r 0 0),.int .u8 (.r 0 0),.int .u8 (.r 0 0),.int .u8 (.r 0 0),.int .u8 (.r 0 0),.int .u8 (.r 0 0),.int .u8 (.r 0 0),.int .u8 (.r 0 0),.int .u8 (.r 0 0),.int .u8 (.r 0 0),.int .u8 (.r 0 0),.int .u8 (.r 0 0),.int .u8 (.r 0 0),.int .u8 (.r 0 0),.int .u8 (.r 0 0),.int .u8 (.r 0 0),.int .u8 (.r 0 0),.int .u8 (.r 0 0),.int .u8 (.r 0 0),.int .u8 (.r 0 0),.ff,.int .i64 (.r 0 0),.int .u64 (.r 0 0),.ff,.int .i64 (.r 0 0),.int .i64 (.r 0 0),.int .i64 (.r 0 0),.int .u8 (.r 0 0),.int .u8 (.r 0 0),.int .u8 (.r 0 0),.int .u8 (.r 0 0),.int .u8 (.r 0 0),.int .u8 (.r 0 0),.int .u8 (.r 0 0),.int .u8 (.r 0 0),.int .u8 (.r 0 0),.int .u8 (.r 0 0),.int .u8 (.r 0 0),.int .u8 (.r 0 0),.int .u8 (.r 0 0),.int .u8 (.r 0 0),.int .u8 (.r 0 0),.int .u8 (.r 0 0),.int .u8 (.r 0 0),.int .u8 (.r 0 0),.int .u8 (.r 0 0),.int .u8 (.r 0 0),.int .u8 (.r 0 0),.int .u8 (.r 0 0),.int .u8 (.r 0 0),.int .u8 (.r 0 0),.int .u8 (.r 0 0),.int .u8 (.r 0 0),.int .u8 (.r 0 0),.int .u8 (.r 0 0),.int .u8 (.r 0 0),.int .u8 (.r 0 0),.int .u8 (.r 0 0),.int .u8 (.r 0 0),.ff,.int .i64 (.r 0 0),.int .u64 (.r 0 0)]⟩) (.nd (some ⟨.iface,1,16,[.nili]⟩) (.lf) (.lf)) (.lf)) (.nd (some ⟨.func,1,8,[.nilf]⟩) (.nd (some ⟨.func,1,8,[.nilf]⟩) (.lf) (.lf)) (.lf))) (.nd (some ⟨.str [(3,0),(3,1),(98,2)],4,32,[.int .i64 (.r 0 0),.int .i64 (.r 0 0),.int .i64 (.r 0 0),.int .i64 (.r 0 0)]⟩) (.nd (some ⟨.func,1,8,[.nilf]⟩) (.nd (some ⟨.func,1,8,[.nilf]⟩) (.lf) (.lf)) (.lf)) (.nd (some ⟨.arr 64 5,64,64,rep 64 (.int .u8 (.r 0 0))⟩) (.lf) (.lf))))) (.nd (some ⟨.slice 5,1,24,[.nils]⟩) (.nd (some ⟨.slice 252,1,24,[.nils]⟩) (.nd (some ⟨.str [(67,0),(58,1),(69,2)],5,40,[.nilp,.int .i64 (.r 0 0),.nilp,.nilp,.nilp]⟩) (.nd (some ⟨.str [(112,0),(134,4)],5,40,[.int .i64 (.r 0 0),.int .i64 (.r 0 0),.int .i64 (.r 0 0),.int .i64 (.r 0 0),.int .u64 (.r 0 0)]⟩) (.nd (some ⟨.func,1,8,[.nilf]⟩) (.lf) (.lf)) (.lf)) (.nd (some ⟨.str [(3,0),(3,1),(3,2),(3,3),(3,4),(58,5),(102,6)],14,56,[.int .i64 (.r 0 0),.int .i64 (.r 0 0),.int .i64 (.r 0 0),.int .i64 (.r 0 0),.int .i64 (.r 0 0),.int .i64 (.r 0 0),.int .u8 (.r 0 0),.int .u8 (.r 0 0),.int .u8 (.r 0 0),.int .u8 (.r 0 0),.int .u8 (.r 0 0),.int .u8 (.r 0 0),.int .u8 (.r 0 0),.int .u8 (.r 0 0)]⟩) (.nd (some ⟨.func,1,8,[.nilf]⟩) (.lf) (.lf)) (.lf))) (.nd (some ⟨.str [(3,0),(4,1),(102,2)],10,24,[.int .i64 (.r 0 0),.ff,.int .u8 (.r 0 0),.int .u8 (.r 0 0),.int .u8 (.r 0 0),.int .u8 (.r 0 0),.int .u8 (.r 0 0),.int .u8 (.r 0 0),.int .u8 (.r 0 0),.int .u8 (.r 0 0)]⟩) (.nd (some ⟨.func,1,8,[.nilf]⟩) (.nd (some ⟨.func,1,8,[.nilf]⟩) (.lf) (.lf)) (.lf)) (.nd (some ⟨.str [(3,0),(3,1)],2,16,[.int .i64 (.r 0 0),.int .i64 (.r 0 0)]⟩) (.lf) (.lf)))) (.nd (some ⟨.str [(3,0),(3,1),(3,2),(3,3),(36,4),(51,7),(52,19),(53,20),(22,25),(4,30)],31,232,[.int .i64 (.r 0 0),.int .i64 (.r 0 0),.int .i64 (.r 0 0),.int .i64 (.r 0 0),.int .i64 (.r 0 0),.int .i64 (.r 0 0),.int .i64 (.r 0 0),.int .i64 (.r 0 0),.int .i64 (.r 0 0),.int .i64 (.r 0 0),.int .i64 (.r 0 0),.int .i64 (.r 0 0),.int .i64 (.r 0 0),.int .i64 (.r 0 0),.int .i64 (.r 0 0),.int .i64 (.r 0 0),.int .i64 (.r 0 0),.int .i64 (.r 0 0),.int .i64 (.r 0 0),.nils,.ff,.ff,.ff,.ff,.ff,.int .i64 (.r 0 0),.int .i64 (.r 0 0),.int .i64 (.r 0 0),.int .i64 (.r 0 0),.int .i64 (.r 0 0),.ff]⟩) (.nd (some ⟨.str [(67,0),(39,1),(40,2)],3,56,[.nilp,.nils,.nils]⟩) (.nd (some ⟨.func,1,8,[.nilf]⟩) (.nd (some ⟨.int .i64,1,8,[.int .i64 (.r 0 0)]⟩) (.lf) (.lf)) (.lf)) (.nd (some ⟨.ptr 132,1,8,[.nilp]⟩) (.nd (some ⟨.func,1,8,[.nilf]⟩) (.lf) (.lf)) (.lf))) (.nd (some ⟨.func,1,8,[.nilf]⟩) (.nd (some ⟨.func,1,8,[.nilf]⟩) (.nd (some ⟨.func,1,8,[.nilf]⟩) (.lf) (.lf)) (.lf)) (.nd (some ⟨.func,1,8,[.nilf]⟩) (.lf) (.lf)))))
def tyT11:Tr TY:=.nd none (.nd (some ⟨.str [(17,0)],1,8,[.nilp]⟩) (.nd (some ⟨.str [(3,0),(3,1),(3,2)],3,24,[.int .i64 (.r 0 0),.int .i64 (.r 0 0),.int .i64 (.r 0 0)]⟩) (.nd (some ⟨.ptr 108,1,8,[.nilp]⟩) (.nd (some ⟨.slice 136,1,24,[.nils]⟩) (.nd (some ⟨.ptr 138,1,8,[.nilp]⟩) (.lf) (.lf)) (.lf)) (.nd (some ⟨.func,1,8,[.nilf]⟩) (.nd (some ⟨.func,1,8,[.nilf]⟩) (.lf) (.lf)) (.lf))) (.nd (some ⟨.str [(3,0),(3,1),(3,2),(98,3),(98,5),(4,7)],8,64,[.int .i64 (.r 0 0),.int .i64 (.r 0 0),.int .i64 (.r 0 0),.int .i64 (.r 0 0),.int .i64 (.r 0 0),.int .i64 (.r 0 0),.int .i64 (.r 0 0),.ff]⟩) (.nd (some ⟨.str [(3,0),(3,1),(58,2),(23,3)],4,48,[.int .i64 (.r 0 0),.int .i64 (.r 0 0),.int .i64 (.r 0 0),.nils]⟩) (.nd (some ⟨.func,1,8,[.nilf]⟩) (.lf) (.lf)) (.lf)) (.nd (some ⟨.func,1,8,[.nilf]⟩) (.lf) (.lf)))) (.nd (some ⟨.str [(3,0),(25,1),(25,5),(36,9)],12,96,rep 12 (.int .i64 (.r 0 0))⟩) (.nd (some ⟨.func,1,8,[.nilf]⟩) (.nd (some ⟨.func,1,8,[.nilf]⟩) (.nd (some ⟨.func,1,8,[.nilf]⟩) (.lf) (.lf)) (.lf)) (.nd (some ⟨.func,1,8,[.nilf]⟩) (.nd (some ⟨.str [(338,0)],0,0,[]⟩) (.lf) (.lf)) (.lf))) (.nd (some ⟨.ptr 79,1,8,[.nilp]⟩) (.nd (some ⟨.func,1,8,[.nilf]⟩) (.nd (some ⟨.str [(58,0),(30,1)],2,16,[.int .i64 (.r 0 0),.nilf]⟩) (.lf) (.lf)) (.lf)) (.nd (some ⟨.slice 290,1,24,[.nils]⟩) (.lf) (.lf))))) (.nd (some ⟨.str [(22,0),(24,5),(23,8),(22,9),(26,14),(22,34),(3,39),(3,40),(3,41),(3,42),(3,43),(3,44),(3,45),(3,46),(3,47),(3,48),(3,49),(25,50),(3,54),(3,55)],56,512,[.int .i64 (.r 0 0),.int .i64 (.r 0 0),.int .i64 (.r 0 0),.int .i64 (.r 0 0),.int .i64 (.r 0 0),.nils,.nils,.nils,.nils,.int .i64 (.r 0 0),.int .i64 (.r 0 0),.int .i64 (.r 0 0),.int .i64 (.r 0 0),.int .i64 (.r 0 0),.int .i64 (.r 0 0),.int .i64 (.r 0 0),.int .i64 (.r 0 0),.int .i64 (.r 0 0),.int .i64 (.r 0 0),.int .i64 (.r 0 0),.int .i64 (.r 0 0),.int .i64 (.r 0 0),.int .i64 (.r 0 0),.int .i64 (.r 0 0),.int .i64 (.r 0 0),.int .i64 (.r 0 0),.int .i64 (.r 0 0),.int .i64 (.r 0 0),.int .i64 (.r 0 0),.int .i64 (.r 0 0),.int .i64 (.r 0 0),.int .i64 (.r 0 0),.int .i64 (.r 0 0),.int .i64 (.r 0 0),.int .i64 (.r 0 0),.int .i64 (.r 0 0),.int .i64 (.r 0 0),.int .i64 (.r 0 0),.int .i64 (.r 0 0),.int .i64 (.r 0 0),.int .i64 (.r 0 0),.int .i64 (.r 0 0),.int .i64 (.r 0 0),.int .i64 (.r 0 0),.int .i64 (.r 0 0),.int .i64 (.r 0 0),.int .i64 (.r 0 0),.int .i64 (.r 0 0),.int .i64 (.r 0 0),.int .i64 (.r 0 0),.int .i64 (.r 0 0),.int .i64 (.r 0 0),.int .i64 (.r 0 0),.int .i64 (.r 0 0),.int .i64 (.r 0 0),.int .i64 (.r 0 0)]⟩) (.nd (some ⟨.str [(38,0),(39,12),(40,13),(41,14)],46,176,[.int .i64 (.r 0 0),.int .i64 (.r 0 0),.int .i64 (.r 0 0),.int .i64 (.r 0 0),.int .i64 (.r 0 0),.int .i64 (.r 0 0),.int .i64 (.r 0 0),.int .i64 (.r 0 0),.int .i64 (.r 0 0),.int .i64 (.r 0 0),.int .i64 (.r 0 0),.int .i64 (.r 0 0),.nils,.nils,.int .u8 (.r 0 0),.int .u8 (.r 0 0),.int .u8 (.r 0 0),.int .u8 (.r 0 0),.int .u8 (.r 0 0),.int .u8 (.r 0 0),.int .u8 (.r 0 0),.int .u8 (.r 0 0),.int .u8 (.r 0 0),.int .u8 (.r 0 0),.int .u8 (.r 0 0),.int .u8 (.r 0 0),.int .u8 (.r 0 0),.int .u8 (.r 0 0),.int .u8 (.r 0 0),.int .u8 (.r 0 0),.int .u8 (.r 0 0),.int .u8 (.r 0 0),.int .u8 (.r 0 0),.int .u8 (.r 0 0),.int .u8 (.r 0 0),.int .u8 (.r 0 0),.int .u8 (.r 0 0),.int .u8 (.r 0 0),.int .u8 (.r 0 0),.int .u8 (.r 0 0),.int .u8 (.r 0 0),.int .u8 (.r 0 0),.int .u8 (.r 0 0),.int .u8 (.r 0 0),.int .u8 (.r 0 0),.int .u8 (.r 0 0)]⟩) (.nd (some ⟨.func,1,8,[.nilf]⟩) (.nd (some ⟨.str [(4,0),(3,1),(134,2)],3,24,[.ff,.int .i64 (.r 0 0),.int .u64 (.r 0 0)]⟩) (.nd (some ⟨.arr 12 4,12,12,rep 12 (.ff)⟩) (.lf) (.lf)) (.lf)) (.nd (some ⟨.func,1,8,[.nilf]⟩) (.nd none (.lf) (.lf)) (.lf))) (.nd (some ⟨.str [(28,0),(100,56),(101,64),(105,65),(106,95),(3,96),(3,97),(3,98),(36,99),(51,102),(41,114)],146,840,[.int .i64 (.r 0 0),.int .i64 (.r 0 0),.int .i64 (.r 0 0),.int .i64 (.r 0 0),.int .i64 (.r 0 0),.nils,.nils,.nils,.nils,.int .i64 (.r 0 0),.int .i64 (.r 0 0),.int .i64 (.r 0 0),.int .i64 (.r 0 0),.int .i64 (.r 0 0),.int .i64 (.r 0 0),.int .i64 (.r 0 0),.int .i64 (.r 0 0),.int .i64 (.r 0 0),.int .i64 (.r 0 0),.int .i64 (.r 0 0),.int .i64 (.r 0 0),.int .i64 (.r 0 0),.int .i64 (.r 0 0),.int .i64 (.r 0 0),.int .i64 (.r 0 0),.int .i64 (.r 0 0),.int .i64 (.r 0 0),.int .i64 (.r 0 0),.int .i64 (.r 0 0),.int .i64 (.r 0 0),.int .i64 (.r 0 0),.int .i64 (.r 0 0),.int .i64 (.r 0 0),.int .i64 (.r 0 0),.int .i64 (.r 0 0),.int .i64 (.r 0 0),.int .i64 (.r 0 0),.int .i64 (.r 0 0),.int .i64 (.r 0 0),.int .i64 (.r 0 0),.int .i64 (.r 0 0),.int .i64 (.r 0 0),.int .i64 (.r 0 0),.int .i64 (.r 0 0),.int .i64 (.r 0 0),.int .i64 (.r 0 0),.int .i64 (.r 0 0),.int .i64 (.r 0 0),.int .i64 (.r 0 0),.int .i64 (.r 0 0),.int .i64 (.r 0 0),.int .i64 (.r 0 0),.int .i64 (.r 0 0),.int .i64 (.r 0 0),.int .i64 (.r 0 0),.int .i64 (.r 0 0),.int .i64 (.r 0 0),.int .i64 (.r 0 0),.int .i64 (.r 0 0),.int .i64 (.r 0 0),.int .i64 (.r 0 0),.int .i64 (.r 0 0),.int .i64 (.r 0 0),.ff,.nilp,.int .i64 (.r 0 0),.ff,.int .u8 (.r 0 0),.int .u8 (.r 0 0),.int .u8 (.r 0 0),.int .u8 (.r 0 0),.int .u8 (.r 0 0),.int .u8 (.r 0 0),.int .u8 (.r 0 0),.int .u8 (.r 0 0),.int .i64 (.r 0 0),.ff,.int .u8 (.r 0 0),.int .u8 (.r 0 0),.int .u8 (.r 0 0),.int .u8 (.r 0 0),.int .u8 (.r 0 0),.int .u8 (.r 0 0),.int .u8 (.r 0 0),.int .u8 (.r 0 0),.int .i64 (.r 0 0),.ff,.int .u8 (.r 0 0),.int .u8 (.r 0 0),.int .u8 (.r 0 0),.int .u8 (.r 0 0),.int .u8 (.r 0 0),.int .u8 (.r 0 0),.int .u8 (.r 0 0),.int .u8 (.r 0 0),.nilp,.int .i64 (.r 0 0),.int .i64 (.r 0 0),.int .i64 (.r 0 0),.int .i64 (.r 0 0),.int .i64 (.r 0 0),.int .i64 (.r 0 0),.int .i64 (.r 0 0),.int .i64 (.r 0 0),.int .i64 (.r 0 0),.int .i64 (.r 0 0),.int .i64 (.r 0 0),.int .i64 (.r 0 0),.int .i64 (.r 0 0),.int .i64 (.r 0 0),.int .i64 (.r 0 0),.int .i64 (.r 0 0),.int .i64 (.r 0 0),.int .i64 (.r 0 0),.int .u8 (.r 0 0),.int .u8 (.r 0 0),.int .u8 (.r 0 0),.int .u8 (.r 0 0),.int .u8 (.r 0 0),.int .u8 (.r 0 0),.int .u8 (.r 0 0),.int .u8 (.r 0 0),.int .u8 (.r 0 0),.int .u8 (.r 0 0),.int .u8 (.r 0 0),.int .u8 (.r 0 0),.int .u8 (.r 0 0),.int .u8 (.r 0 0),.int .u8 (.r 0 0),.int .u8 (.r 0 0),.int .u8 (.r 0 0),.int .u8 (.r 0 0),.int .u8 (.r 0 0),.int .u8 (.r 0 0),.int .u8 (.r 0 0),.int .u8 (.r 0 0),.int .u8 (.r 0 0),.int .u8 (.r 0 0),.int .u8 (.r 0 0),.int .u8 (.r 0 0),.int .u8 (.r 0 0),.int .u8 (.r 0 0),.int .u8 (.r 0 0),.int .u8 (.r 0 0),.int .u8 (.r 0 0),.int .u8 (.r 0 0)]⟩) (.nd (some ⟨.func,1,8,[.nilf]⟩) (.nd (some ⟨.ptr 200,1,8,[.nilp]⟩) (.lf) (.lf)) (.lf)) (.nd (some ⟨.int .u32,1,4,[.int .u32 (.r 0 0)]⟩) (.lf) (.lf)))) (.nd (some ⟨.str [(3,0),(3,1),(3,2),(3,3),(58,4),(3,5)],6,48,[.int .i64 (.r 0 0),.int .i64 (.r 0 0),.int .i64 (.r 0 0),.int .i64 (.r 0 0),.int .i64 (.r 0 0),.int .i64 (.r 0 0)]⟩) (.nd (some ⟨.func,1,8,[.nilf]⟩) (.nd (some ⟨.func,1,8,[.nilf]⟩) (.nd (some ⟨.func,1,8,[.nilf]⟩) (.lf) (.lf)) (.lf)) (.nd (some ⟨.func,1,8,[.nilf]⟩) (.nd (some ⟨.str [(12,0),(12,1),(235,2),(341,3),(5,4),(5,5),(342,6),(343,7),(322,8),(344,9),(345,10)],11,48,[.int .u64 (.r 0 0),.int .u64 (.r 0 0),.int .u32 (.r 0 0),.int .u8 (.r 0 0),.int .u8 (.r 0 0),.int .u8 (.r 0 0),.int .u8 (.r 0 0),.nilf,.nilp,.int .i32 (.r 0 0),.int .i32 (.r 0 0)]⟩) (.lf) (.lf)) (.lf))) (.nd (some ⟨.str [(23,0)],1,24,[.nils]⟩) (.nd (some ⟨.func,1,8,[.nilf]⟩) (.nd (some ⟨.func,1,8,[.nilf]⟩) (.lf) (.lf)) (.lf)) (.nd (some ⟨.str [(3,0),(23,1)],2,32,[.int .i64 (.r 0 0),.nils]⟩) (.lf) (.lf)))))
def tyT9:Tr TY:=.nd none (.nd (some ⟨.ptr 347,1,8,[.nilp]⟩) (.nd (some ⟨.func,1,8,[.nilf]⟩) (.nd (some ⟨.func,1,8,[.nilf]⟩) (.nd (some ⟨.func,1,8,[.nilf]⟩) (.nd (some ⟨.func,1,8,[.nilf]⟩) (.lf) (.lf)) (.lf)) (.nd (some ⟨.func,1,8,[.nilf]⟩) (.nd (some ⟨.func,1,8,[.nilf]⟩) (.lf) (.lf)) (.lf))) (.nd (some ⟨.str [(3,0),(3,1)],2,16,[.int .i64 (.r 0 0),.int .i64 (.r 0 0)]⟩) (.nd (some ⟨.func,1,8,[.nilf]⟩) (.nd (some ⟨.str [(3,0),(3,1),(3,2),(226,3),(184,4)],5,40,[.int .i64 (.r 0 0),.int .i64 (.r 0 0),.int .i64 (.r 0 0),.nilf,.nilf]⟩) (.lf) (.lf)) (.lf)) (.nd (some ⟨.iface,1,16,[.nili]⟩) (.lf) (.lf)))) (.nd (some ⟨.func,1,8,[.nilf]⟩) (.nd (some ⟨.func,1,8,[.nilf]⟩) (.nd (some ⟨.str [(138,0),(143,3),(3,120),(3,121)],122,304,[.ff,.int .i64 (.r 0 0),.int .i64 (.r 0 0),.ff,.int .i64 (.r 0 0),.int .i64 (.r 0 0),.int .i64 (.r 0 0),.int .u8 (.r 0 0),.int .u8 (.r 0 0),.int .u8 (.r 0 0),.int .u8 (.r 0 0),.int .u8 (.r 0 0),.int .u8 (.r 0 0),.int .u8 (.r 0 0),.int .u8 (.r 0 0),.int .u8 (.r 0 0),.int .u8 (.r 0 0),.int .u8 (.r 0 0),.int .u8 (.r 0 0),.int .u8 (.r 0 0),.int .u8 (.r 0 0),.int .u8 (.r 0 0),.int .u8 (.r 0 0),.int .u8 (.r 0 0),.int .u8 (.r 0 0),.int .u8 (.r 0 0),.int .u8 (.r 0 0),.int .u8 (.r 0 0),.int .u8 (.r 0 0),.int .u8 (.r 0 0),.int .u8 (.r 0 0),.int .u8 (.r 0 0),.int .u8 (.r 0 0),.int .u8 (.r 0 0),.int .u8 (.r 0 0),.int .u8 (.r 0 0),.int .u8 (.r 0 0),.int .u8 (.r 0 0),.int .u8 (.r 0 0),.ff,.int .i64 (.r 0 0),.int .u64 (.r 0 0),.ff,.int .i64 (.r 0 0),.int .i64 (.r 0 0),.int .i64 (.r 0 0),.int .u8 (.r 0 0),.int .u8 (.r 0 0),.int .u8 (.r 0 0),.int .u8 (.r 0 0),.int .u8 (.r 0 0),.int .u8 (.r 0 0),.int .u8 (.r 0 0),.int .u8 (.r 0 0),.int .u8 (.r 0 0),.int .u8 (.r 0 0),.int .u8 (.r 0 0),.int .u8 (.r 0 0),.int .u8 (.r 0 0),.int .u8 (.r 0 0),.int .u8 (.r 0 0),.int .u8 (.r 0 0),.int .u8 (.r 0 0),.int .u8 (.r 0 0),.int .u8 (.r 0 0),.int .u8 (.r 0 0),.int .u8 (.r 0 0),.int .u8 (.r 0 0),.int .u8 (.r 0 0),.int .u8 (.r 0 0),.int .u8 (.r 0 0),.int .u8 (.r 0 0),.int .u8 (.r 0 0),.int .u8 (.r 0 0),.int .u8 (.r 0 0),.int .u8 (.r 0 0),.int .u8 (.r 0 0),.int .u8 (.r 0 0),.ff,.int .i64 (.r 0 0),.int .u64 (.r 0 0),.ff,.int .i64 (.r 0 0),.int .i64 (.r 0 0),.int .i64 (.r 0 0),.int .u8 (.r 0 0),.int .u8 (.r 0 0),.int .u8 (.r 0 0),.int .u8 (.r 0 0),.int .u8 (.r 0 0),.int .u8 (.r 0 0),.int .u8 (.r 0 0),.int .u8 (.r 0 0),.int .u8 (.r 0 0),.int .u8 (.r 0 0),.int .u8 (.r 0 0),.int .u8 (.r 0 0),.int .u8 (.r 0 0),.int .u8 (.r 0 0),.int .u8 (.r 0 0),.int .u8 (.r 0 0),.int .u8 (.r 0 0),.int .u8 (.r 0 0),.int .u8 (.r 0 0),.int .u8 (.r 0 0),.int .u8 (.r 0 0),.int .u8 (.r 0 0),.int .u8 (.r 0 0),.int .u8 (.r 0 0),.int .u8 (.r 0 0),.int .u8 (.r 0 0),.int .u8 (.r 0 0),.int .u8 (.r 0 0),.int .u8 (.r 0 0),.int .u8 (.r 0 0),.int .u8 (.r 0 0),.int .u8 (.r 0 0),.ff,.int .i64 (.r 0 0),.int .u64 (.r 0 0),.int .i64 (.r 0 0),.int .i64 (.r 0 0)]⟩) (.nd (some ⟨.func,1,8,[.nilf]⟩) (.lf) (.lf)) (.lf)) (.nd none (.nd none (.lf) (.lf)) (.lf))) (.nd (some ⟨.func,1,8,[.nilf]⟩) (.nd (some ⟨.func,1,8,[.nilf]⟩) (.nd (some ⟨.func,1,8,[.nilf]⟩) (.lf) (.lf)) (.lf)) (.nd (some ⟨.func,1,8,[.nilf]⟩) (.lf) (.lf))))) (.nd (some ⟨.arr 4 3,4,32,[.int .i64 (.r 0 0),.int .i64 (.r 0 0),.int .i64 (.r 0 0),.int .i64 (.r 0 0)]⟩) (.nd (some ⟨.arr 32 5,32,32,rep 32 (.int .u8 (.r 0 0))⟩) (.nd (some ⟨.func,1,8,[.nilf]⟩) (.nd (some ⟨.str [(4,0),(98,1)],3,24,[.ff,.int .i64 (.r 0 0),.int .i64 (.r 0 0)]⟩) (.nd (some ⟨.func,1,8,[.nilf]⟩) (.lf) (.lf)) (.lf)) (.nd none (.nd (some ⟨.func,1,8,[.nilf]⟩) (.lf) (.lf)) (.lf))) (.nd (some ⟨.arr 3 104,30,72,[.int .i64 (.r 0 0),.ff,.int .u8 (.r 0 0),.int .u8 (.r 0 0),.int .u8 (.r 0 0),.int .u8 (.r 0 0),.int .u8 (.r 0 0),.int .u8 (.r 0 0),.int .u8 (.r 0 0),.int .u8 (.r 0 0),.int .i64 (.r 0 0),.ff,.int .u8 (.r 0 0),.int .u8 (.r 0 0),.int .u8 (.r 0 0),.int .u8 (.r 0 0),.int .u8 (.r 0 0),.int .u8 (.r 0 0),.int .u8 (.r 0 0),.int .u8 (.r 0 0),.int .i64 (.r 0 0),.ff,.int .u8 (.r 0 0),.int .u8 (.r 0 0),.int .u8 (.r 0 0),.int .u8 (.r 0 0),.int .u8 (.r 0 0),.int .u8 (.r 0 0),.int .u8 (.r 0 0),.int .u8 (.r 0 0)]⟩) (.nd (some ⟨.str [(3,0),(3,1),(3,2),(3,3),(3,4),(3,5),(3,6),(4,7),(25,8)],12,96,[.int .i64 (.r 0 0),.int .i64 (.r 0 0),.int .i64 (.r 0 0),.int .i64 (.r 0 0),.int .i64 (.r 0 0),.int .i64 (.r 0 0),.int .i64 (.r 0 0),.ff,.int .i64 (.r 0 0),.int .i64 (.r 0 0),.int .i64 (.r 0 0),.int .i64 (.r 0 0)]⟩) (.nd (some ⟨.func,1,8,[.nilf]⟩) (.lf) (.lf)) (.lf)) (.nd (some ⟨.arr 6 232,12,96,rep 12 (.int .i64 (.r 0 0))⟩) (.lf) (.lf)))) (.nd (some ⟨.func,1,8,[.nilf]⟩) (.nd (some ⟨.func,1,8,[.nilf]⟩) (.nd (some ⟨.func,1,8,[.nilf]⟩) (.nd (some ⟨.func,1,8,[.nilf]⟩) (.lf) (.lf)) (.lf)) (.nd none (.nd (some ⟨.int .i32,1,4,[.int .i32 (.r 0 0)]⟩) (.lf) (.lf)) (.lf))) (.nd (some ⟨.func,1,8,[.nilf]⟩) (.nd none (.nd (some ⟨.func,1,8,[.nilf]⟩) (.lf) (.lf)) (.lf)) (.nd (some ⟨.func,1,8,[.nilf]⟩) (.lf) (.lf)))))
def tyT13:Tr TY:=.nd none (.nd (some ⟨.int .i32,1,4,[.int .i32 (.r 0 0)]⟩) (.nd (some ⟨.str [(3,0),(3,1),(25,2),(36,6),(36,9)],12,96,rep 12 (.int .i64 (.r 0 0))⟩) (.nd (some ⟨.arr 3 68,3,24,[.nilp,.nilp,.nilp]⟩) (.nd (some ⟨.func,1,8,[.nilf]⟩) (.nd (some ⟨.func,1,8,[.nilf]⟩) (.lf) (.lf)) (.lf)) (.nd (some ⟨.func,1,8,[.nilf]⟩) (.nd (some ⟨.func,1,8,[.nilf]⟩) (.lf) (.lf)) (.lf))) (.nd (some ⟨.ptr 158,1,8,[.nilp]⟩) (.nd (some ⟨.func,1,8,[.nilf]⟩) (.nd (some ⟨.func,1,8,[.nilf]⟩) (.lf) (.lf)) (.lf)) (.nd (some ⟨.func,1,8,[.nilf]⟩) (.lf) (.lf)))) (.nd (some ⟨.arr 5 4,5,5,[.ff,.ff,.ff,.ff,.ff]⟩) (.nd (some ⟨.func,1,8,[.nilf]⟩) (.nd (some ⟨.func,1,8,[.nilf]⟩) (.nd (some ⟨.func,1,8,[.nilf]⟩) (.lf) (.lf)) (.lf)) (.nd (some ⟨.func,1,8,[.nilf]⟩) (.nd (some ⟨.int .u8,1,1,[.int .u8 (.r 0 0)]⟩) (.lf) (.lf)) (.lf))) (.nd none (.nd (some ⟨.func,1,8,[.nilf]⟩) (.nd (some ⟨.slice 308,1,24,[.nils]⟩) (.lf) (.lf)) (.lf)) (.nd (some ⟨.func,1,8,[.nilf]⟩) (.lf) (.lf))))) (.nd (some ⟨.slice 48,1,24,[.nils]⟩) (.nd (some ⟨.str [(4,0),(25,1),(4,5)],6,48,[.ff,.int .i64 (.r 0 0),.int .i64 (.r 0 0),.int .i64 (.r 0 0),.int .i64 (.r 0 0),.ff]⟩) (.nd (some ⟨.func,1,8,[.nilf]⟩) (.nd (some ⟨.str [(138,0),(3,3),(41,4),(140,36)],39,88,[.ff,.int .i64 (.r 0 0),.int .i64 (.r 0 0),.int .i64 (.r 0 0),.int .u8 (.r 0 0),.int .u8 (.r 0 0),.int .u8 (.r 0 0),.int .u8 (.r 0 0),.int .u8 (.r 0 0),.int .u8 (.r 0 0),.int .u8 (.r 0 0),.int .u8 (.r 0 0),.int .u8 (.r 0 0),.int .u8 (.r 0 0),.int .u8 (.r 0 0),.int .u8 (.r 0 0),.int .u8 (.r 0 0),.int .u8 (.r 0 0),.int .u8 (.r 0 0),.int .u8 (.r 0 0),.int .u8 (.r 0 0),.int .u8 (.r 0 0),.int .u8 (.r 0 0),.int .u8 (.r 0 0),.int .u8 (.r 0 0),.int .u8 (.r 0 0),.int .u8 (.r 0 0),.int .u8 (.r 0 0),.int .u8 (.r 0 0),.int .u8 (.r 0 0),.int .u8 (.r 0 0),.int .u8 (.r 0 0),.int .u8 (.r 0 0),.int .u8 (.r 0 0),.int .u8 (.r 0 0),.int .u8 (.r 0 0),.ff,.int .i64 (.r 0 0),.int .u64 (.r 0 0)]⟩) (.nd (some ⟨.func,1,8,[.nilf]⟩) (.lf) (.lf)) (.lf)) (.nd (some ⟨.func,1,8,[.nilf]⟩) (.nd (some ⟨.func,1,8,[.nilf]⟩) (.lf) (.lf)) (.lf))) (.nd (some ⟨.slice 112,1,24,[.nils]⟩) (.nd none (.nd (some ⟨.func,1,8,[.nilf]⟩) (.lf) (.lf)) (.lf)) (.nd (some ⟨.func,1,8,[.nilf]⟩) (.lf) (.lf)))) (.nd (some ⟨.slice 43,1,24,[.nils]⟩) (.nd (some ⟨.str [(58,0),(23,1)],2,32,[.int .i64 (.r 0 0),.nils]⟩) (.nd (some ⟨.str [(132,0),(3,1),(134,2)],3,40,[.nils,.int .i64 (.r 0 0),.int .u64 (.r 0 0)]⟩) (.nd (some ⟨.arr 64 235,64,256,rep 64 (.int .u32 (.r 0 0))⟩) (.lf) (.lf)) (.lf)) (.nd (some ⟨.func,1,8,[.nilf]⟩) (.lf) (.lf))) (.nd (some ⟨.ptr 88,1,8,[.nilp]⟩) (.nd (some ⟨.func,1,8,[.nilf]⟩) (.nd none (.lf) (.lf)) (.lf)) (.nd (some ⟨.func,1,8,[.nilf]⟩) (.lf) (.lf)))))
def tyT8:Tr TY:=.nd (some ⟨.str [(2,0),(3,1),(4,2),(6,3)],4,24,[.int .i64 (.r 0 0),.int .i64 (.r 0 0),.ff,.int .u8 (.r 0 0)]⟩) (.nd (some ⟨.ptr 340,1,8,[.nilp]⟩) (.nd none (.nd (some ⟨.func,1,8,[.nilf]⟩) (.nd (some ⟨.func,1,8,[.nilf]⟩) (.nd (some ⟨.func,1,8,[.nilf]⟩) (.lf) (.lf)) (.lf)) (.nd (some ⟨.func,1,8,[.nilf]⟩) (.nd (some ⟨.func,1,8,[.nilf]⟩) (.lf) (.lf)) (.lf))) (.nd (some ⟨.func,1,8,[.nilf]⟩) (.nd (some ⟨.str [(3,0),(3,1),(3,2),(98,3),(98,5),(4,7)],8,64,[.int .i64 (.r 0 0),.int .i64 (.r 0 0),.int .i64 (.r 0 0),.int .i64 (.r 0 0),.int .i64 (.r 0 0),.int .i64 (.r 0 0),.int .i64 (.r 0 0),.ff]⟩) (.nd (some ⟨.func,1,8,[.nilf]⟩) (.lf) (.lf)) (.lf)) (.nd (some ⟨.iface,1,16,[.nili]⟩) (.lf) (.lf)))) (.nd (some ⟨.str [(3,0),(3,1),(23,2),(46,3),(4,9)],10,96,[.int .i64 (.r 0 0),.int .i64 (.r 0 0),.nils,.ff,.int .i64 (.r 0 0),.int .i64 (.r 0 0),.int .i64 (.r 0 0),.int .i64 (.r 0 0),.ff,.ff]⟩) (.nd (some ⟨.func,1,8,[.nilf]⟩) (.nd (some ⟨.str [(138,0),(143,3),(3,120),(3,121)],122,304,[.ff,.int .i64 (.r 0 0),.int .i64 (.r 0 0),.ff,.int .i64 (.r 0 0),.int .i64 (.r 0 0),.int .i64 (.r 0 0),.int .u8 (.r 0 0),.int .u8 (.r 0 0),.int .u8 (.r 0 0),.int .u8 (.r 0 0),.int .u8 (.r 0 0),.int .u8 (.r 0 0),.int .u8 (.r 0 0),.int .u8 (.r 0 0),.int .u8 (.r 0 0),.int .u8 (.r 0 0),.int .u8 (.r 0 0),.int .u8 (.r 0 0),.int .u8 (.r 0 0),.int .u8 (.r 0 0),.int .u8 (.r 0 0),.int .u8 (.r 0 0),.int .u8 (.r 0 0),.int .u8 (.r 0 0),.int .u8 (.r 0 0),.int .u8 (.r 0 0),.int .u8 (.r 0 0),.int .u8 (.r 0 0),.int .u8 (.r 0 0),.int .u8 (.r 0 0),.int .u8 (.r 0 0),.int .u8 (.r 0 0),.int .u8 (.r 0 0),.int .u8 (.r 0 0),.int .u8 (.r 0 0),.int .u8 (.r 0 0),.int .u8 (.r 0 0),.int .u8 (.r 0 0),.ff,.int .i64 (.r 0 0),.int .u64 (.r 0 0),.ff,.int .i64 (.r 0 0),.int .i64 (.r 0 0),.int .i64 (.r 0 0),.int .u8 (.r 0 0),.int .u8 (.r 0 0),.int .u8 (.r 0 0),.int .u8 (.r 0 0),.int .u8 (.r 0 0),.int .u8 (.r 0 0),.int .u8 (.r 0 0),.int .u8 (.r 0 0),.int .u8 (.r 0 0),.int .u8 (.r 0 0),.int .u8 (.r 0 0),.int .u8 (.r 0 0),.int .u8 (.r 0 0),.int .u8 (.r 0 0),.int .u8 (.r 0 0),.int .u8 (.r 0 0),.int .u8 (.r 0 0),.int .u8 (.r 0 0),.int .u8 (.r 0 0),.int .u8 (.r 0 0),.int .u8 (.r 0 0),.int .u8 (.r 0 0),.int .u8 (.r 0 0),.int .u8 (.r 0 0),.int .u8 (.r 0 0),.int .u8 (.r 0 0),.int .u8 (.r 0 0),.int .u8 (.r 0 0),.int .u8 (.r 0 0),.int .u8 (.r 0 0),.int .u8 (.r 0 0),.int .u8 (.r 0 0),.ff,.int .i64 (.r 0 0),.int .u64 (.r 0 0),.ff,.int .i64 (.r 0 0),.int .i64 (.r 0 0),.int .i64 (.r 0 0),.int .u8 (.r 0 0),.int .u8 (.r 0 0),.int .u8 (.r 0 0),.int .u8 (.r 0 0),.int .u8 (.r 0 0),.int .u8 (.r 0 0),.int .u8 (.r 0 0),.int .u8 (.r 0 0),.int .u8 (.r 0 0),.int .u8 (.r 0 0),.int .u8 (.r 0 0),.int .u8 (.r 0 0),.int .u8 (.r 0 0),.int .u8 (.r 0 0),.int .u8 (.r 0 0),.int .u8 (.r 0 0),.int .u8 (.r 0 0),.int .u8 (.r 0 0),.int .u8 (.r 0 0),.int .u8 (.r 0 0),.int .u8 (.r 0 0),.int .u8 (.r 0 0),.int .u8 (.r 0 0),.int .u8 (.r 0 0),.int .u8 (.r 0 0),.int .u8 (.r 0 0),.int .u8 (.r 0 0),.int .u8 (.r 0 0),.int .u8 (.r 0 0),.int .u8 (.r 0 0),.int .u8 (.r 0 0),.int .u8 (.r 0 0),.ff,.int .i64 (.r 0 0),.int .u64 (.r 0 0),.int .i64 (.r 0 0),.int .i64 (.r 0 0)]⟩) (.nd (some ⟨.iface,1,16,[.nili]⟩) (.lf) (.lf)) (.lf)) (.nd (some ⟨.func,1,8,[.nilf]⟩) (.nd none (.lf) (.lf)) (.lf))) (.nd (some ⟨.str [(3,0),(3,1),(98,2)],4,32,[.int .i64 (.r 0 0),.int .i64 (.r 0 0),.int .i64 (.r 0 0),.int .i64 (.r 0 0)]⟩) (.nd none (.nd (some ⟨.func,1,8,[.nilf]⟩) (.lf) (.lf)) (.lf)) (.nd (some ⟨.int .u16,1,2,[.int .u16 (.r 0 0)]⟩) (.lf) (.lf))))) (.nd (some ⟨.arr 3 23,3,72,[.nils,.nils,.nils]⟩) (.nd (some ⟨.slice 60,1,24,[.nils]⟩) (.nd (some ⟨.func,1,8,[.nilf]⟩) (.nd (some ⟨.str [(112,0),(134,4)],5,40,[.int .i64 (.r 0 0),.int .i64 (.r 0 0),.int .i64 (.r 0 0),.int .i64 (.r 0 0),.int .u64 (.r 0 0)]⟩) (.nd (some ⟨.func,1,8,[.nilf]⟩) (.lf) (.lf)) (.lf)) (.nd (some ⟨.str [(3,0),(3,1),(3,2),(3,3),(3,4),(58,5),(102,6)],14,56,[.int .i64 (.r 0 0),.int .i64 (.r 0 0),.int .i64 (.r 0 0),.int .i64 (.r 0 0),.int .i64 (.r 0 0),.int .i64 (.r 0 0),.int .u8 (.r 0 0),.int .u8 (.r 0 0),.int .u8 (.r 0 0),.int .u8 (.r 0 0),.int .u8 (.r 0 0),.int .u8 (.r 0 0),.int .u8 (.r 0 0),.int .u8 (.r 0 0)]⟩) (.nd (some ⟨.arr 5 3,5,40,[.int .i64 (.r 0 0),.int .i64 (.r 0 0),.int .i64 (.r 0 0),.int .i64 (.r 0 0),.int .i64 (.r 0 0)]⟩) (.lf) (.lf)) (.lf))) (.nd (some ⟨.str [(3,0),(4,1),(102,2)],10,24,[.int .i64 (.r 0 0),.ff,.int .u8 (.r 0 0),.int .u8 (.r 0 0),.int .u8 (.r 0 0),.int .u8 (.r 0 0),.int .u8 (.r 0 0),.int .u8 (.r 0 0),.int .u8 (.r 0 0),.int .u8 (.r 0 0)]⟩) (.nd (some ⟨.str [(3,0),(3,1),(3,2),(3,3),(3,4),(3,5),(3,6),(4,7),(25,8)],12,96,[.int .i64 (.r 0 0),.int .i64 (.r 0 0),.int .i64 (.r 0 0),.int .i64 (.r 0 0),.int .i64 (.r 0 0),.int .i64 (.r 0 0),.int .i64 (.r 0 0),.ff,.int .i64 (.r 0 0),.int .i64 (.r 0 0),.int .i64 (.r 0 0),.int .i64 (.r 0 0)]⟩) (.nd (some ⟨.func,1,8,[.nilf]⟩) (.lf) (.lf)) (.lf)) (.nd (some ⟨.str [(3,0),(3,1)],2,16,[.int .i64 (.r 0 0),.int .i64 (.r 0 0)]⟩) (.lf) (.lf)))) (.nd (some ⟨.func,1,8,[.nilf]⟩) (.nd (some ⟨.str [(67,0),(39,1),(40,2)],3,56,[.nilp,.nils,.nils]⟩) (.nd (some ⟨.func,1,8,[.nilf]⟩) (.nd none (.lf) (.lf)) (.lf)) (.nd (some ⟨.func,1,8,[.nilf]⟩) (.nd (some ⟨.int .i32,1,4,[.int .i32 (.r 0 0)]⟩) (.lf) (.lf)) (.lf))) (.nd (some ⟨.func,1,8,[.nilf]⟩) (.nd (some ⟨.func,1,8,[.nilf]⟩) (.nd (some ⟨.int .u64,1,8,[.int .u64 (.r 0 0)]⟩) (.lf) (.lf)) (.lf)) (.nd (some ⟨.func,1,8,[.nilf]⟩) (.lf) (.lf)))))
def tyT12:Tr TY:=.nd (some ⟨.int .u64,1,8,[.int .u64 (.r 0 0)]⟩) (.nd (some ⟨.iface,1,16,[.nili]⟩) (.nd (some ⟨.str [(3,0),(3,1),(3,2)],3,24,[.int .i64 (.r 0 0),.int .i64 (.r 0 0),.int .i64 (.r 0 0)]⟩) (.nd (some ⟨.ptr 124,1,8,[.nilp]⟩) (.nd (some ⟨.slice 136,1,24,[.nils]⟩) (.nd (some ⟨.func,1,8,[.nilf]⟩) (.lf) (.lf)) (.lf)) (.nd none (.nd (some ⟨.ptr 58,1,8,[.nilp]⟩) (.lf) (.lf)) (.lf))) (.nd (some ⟨.str [(3,0),(3,1),(3,2),(98,3),(98,5),(4,7)],8,64,[.int .i64 (.r 0 0),.int .i64 (.r 0 0),.int .i64 (.r 0 0),.int .i64 (.r 0 0),.int .i64 (.r 0 0),.int .i64 (.r 0 0),.int .i64 (.r 0 0),.ff]⟩) (.nd (some ⟨.func,1,8,[.nilf]⟩) (.nd (some ⟨.ptr 3,1,8,[.nilp]⟩) (.lf) (.lf)) (.lf)) (.nd (some ⟨.int .u64,1,8,[.int .u64 (.r 0 0)]⟩) (.lf) (.lf)))) (.nd (some ⟨.slice 3,1,24,[.nils]⟩) (.nd none (.nd (some ⟨.func,1,8,[.nilf]⟩) (.nd (some ⟨.func,1,8,[.nilf]⟩) (.lf) (.lf)) (.lf)) (.nd (some ⟨.func,1,8,[.nilf]⟩) (.nd (some ⟨.str [(338,0)],0,0,[]⟩) (.lf) (.lf)) (.lf))) (.nd (some ⟨.func,1,8,[.nilf]⟩) (.nd (some ⟨.func,1,8,[.nilf]⟩) (.nd (some ⟨.str [(58,0),(30,1)],2,16,[.int .i64 (.r 0 0),.nilf]⟩) (.lf) (.lf)) (.lf)) (.nd none (.lf) (.lf))))) (.nd (some ⟨.str [(22,0),(24,5),(23,8),(22,9),(26,14),(22,34),(3,39),(3,40),(3,41),(3,42),(3,43),(3,44),(3,45),(3,46),(3,47),(3,48),(3,49),(25,50),(3,54),(3,55)],56,512,[.int .i64 (.r 0 0),.int .i64 (.r 0 0),.int .i64 (.r 0 0),.int .i64 (.r 0 0),.int .i64 (.r 0 0),.nils,.nils,.nils,.nils,.int .i64 (.r 0 0),.int .i64 (.r 0 0),.int .i64 (.r 0 0),.int .i64 (.r 0 0),.int .i64 (.r 0 0),.int .i64 (.r 0 0),.int .i64 (.r 0 0),.int .i64 (.r 0 0),.int .i64 (.r 0 0),.int .i64 (.r 0 0),.int .i64 (.r 0 0),.int .i64 (.r 0 0),.int .i64 (.r 0 0),.int .i64 (.r 0 0),.int .i64 (.r 0 0),.int .i64 (.r 0 0),.int .i64 (.r 0 0),.int .i64 (.r 0 0),.int .i64 (.r 0 0),.int .i64 (.r 0 0),.int .i64 (.r 0 0),.int .i64 (.r 0 0),.int .i64 (.r 0 0),.int .i64 (.r 0 0),.int .i64 (.r 0 0),.int .i64 (.r 0 0),.int .i64 (.r 0 0),.int .i64 (.r 0 0),.int .i64 (.r 0 0),.int .i64 (.r 0 0),.int .i64 (.r 0 0),.int .i64 (.r 0 0),.int .i64 (.r 0 0),.int .i64 (.r 0 0),.int .i64 (.r 0 0),.int .i64 (.r 0 0),.int .i64 (.r 0 0),.int .i64 (.r 0 0),.int .i64 (.r 0 0),.int .i64 (.r 0 0),.int .i64 (.r 0 0),.int .i64 (.r 0 0),.int .i64 (.r 0 0),.int .i64 (.r 0 0),.int .i64 (.r 0 0),.int .i64 (.r 0 0),.int .i64 (.r 0 0)]⟩) (.nd (some ⟨.func,1,8,[.nilf]⟩) (.nd (some ⟨.func,1,8,[.nilf]⟩) (.nd (some ⟨.str [(4,0),(3,1),(134,2)],3,24,[.ff,.int .i64 (.r 0 0),.int .u64 (.r 0 0)]⟩) (.nd (some ⟨.func,1,8,[.nilf]⟩) (.lf) (.lf)) (.lf)) (.nd none (.nd (some ⟨.func,1,8,[.nilf]⟩) (.lf) (.lf)) (.lf))) (.nd (some ⟨.str [(28,0),(100,56),(101,64),(105,65),(106,95),(3,96),(3,97),(3,98),(36,99),(51,102),(41,114)],146,840,[.int .i64 (.r 0 0),.int .i64 (.r 0 0),.int .i64 (.r 0 0),.int .i64 (.r 0 0),.int .i64 (.r 0 0),.nils,.nils,.nils,.nils,.int .i64 (.r 0 0),.int .i64 (.r 0 0),.int .i64 (.r 0 0),.int .i64 (.r 0 0),.int .i64 (.r 0 0),.int .i64 (.r 0 0),.int .i64 (.r 0 0),.int .i64 (.r 0 0),.int .i64 (.r 0 0),.int .i64 (.r 0 0),.int .i64 (.r 0 0),.int .i64 (.r 0 0),.int .i64 (.r 0 0),.int .i64 (.r 0 0),.int .i64 (.r 0 0),.int .i64 (.r 0 0),.int .i64 (.r 0 0),.int .i64 (.r 0 0),.int .i64 (.r 0 0),.int .i64 (.r 0 0),.int .i64 (.r 0 0),.int .i64 (.r 0 0),.int .i64 (.r 0 0),.int .i64 (.r 0 0),.int .i64 (.r 0 0),.int .i64 (.r 0 0),.int .i64 (.r 0 0),.int .i64 (.r 0 0),.int .i64 (.r 0 0),.int .i64 (.r 0 0),.int .i64 (.r 0 0),.int .i64 (.r 0 0),.int .i64 (.r 0 0),.int .i64 (.r 0 0),.int .i64 (.r 0 0),.int .i64 (.r 0 0),.int .i64 (.r 0 0),.int .i64 (.r 0 0),.int .i64 (.r 0 0),.int .i64 (.r 0 0),.int .i64 (.r 0 0),.int .i64 (.r 0 0),.int .i64 (.r 0 0),.int .i64 (.r 0 0),.int .i64 (.r 0 0),.int .i64 (.r 0 0),.int .i64 (.r 0 0),.int .i64 (.r 0 0),.int .i64 (.r 0 0),.int .i64 (.r 0 0),.int .i64 (.r 0 0),.int .i64 (.r 0 0),.int .i64 (.r 0 0),.int .i64 (.r 0 0),.ff,.nilp,.int .i64 (.r 0 0),.ff,.int .u8 (.r 0 0),.int .u8 (.r 0 0),.int .u8 (.r 0 0),.int .u8 (.r 0 0),.int .u8 (.r 0 0),.int .u8 (.r 0 0),.int .u8 (.r 0 0),.int .u8 (.r 0 0),.int .i64 (.r 0 0),.ff,.int .u8 (.r 0 0),.int .u8 (.r 0 0),.int .u8 (.r 0 0),.int .u8 (.r 0 0),.int .u8 (.r 0 0),.int .u8 (.r 0 0),.int .u8 (.r 0 0),.int .u8 (.r 0 0),.int .i64 (.r 0 0),.ff,.int .u8 (.r 0 0),.int .u8 (.r 0 0),.int .u8 (.r 0 0),.int .u8 (.r 0 0),.int .u8 (.r 0 0),.int .u8 (.r 0 0),.int .u8 (.r 0 0),.int .u8 (.r 0 0),.nilp,.int .i64 (.r 0 0),.int .i64 (.r 0 0),.int .i64 (.r 0 0),.int .i64 (.r 0 0),.int .i64 (.r 0 0),.int .i64 (.r 0 0),.int .i64 (.r 0 0),.int .i64 (.r 0 0),.int .i64 (.r 0 0),.int .i64 (.r 0 0),.int .i64 (.r 0 0),.int .i64 (.r 0 0),.int .i64 (.r 0 0),.int .i64 (.r 0 0),.int .i64 (.r 0 0),.int .i64 (.r 0 0),.int .i64 (.r 0 0),.int .i64 (.r 0 0),.int .u8 (.r 0 0),.int .u8 (.r 0 0),.int .u8 (.r 0 0),.int .u8 (.r 0 0),.int .u8 (.r 0 0),.int .u8 (.r 0 0),.int .u8 (.r 0 0),.int .u8 (.r 0 0),.int .u8 (.r 0 0),.int .u8 (.r 0 0),.int .u8 (.r 0 0),.int .u8 (.r 0 0),.int .u8 (.r 0 0),.int .u8 (.r 0 0),.int .u8 (.r 0 0),.int .u8 (.r 0 0),.int .u8 (.r 0 0),.int .u8 (.r 0 0),.int .u8 (.r 0 0),.int .u8 (.r 0 0),.int .u8 (.r 0 0),.int .u8 (.r 0 0),.int .u8 (.r 0 0),.int .u8 (.r 0 0),.int .u8 (.r 0 0),.int .u8 (.r 0 0),.int .u8 (.r 0 0),.int .u8 (.r 0 0),.int .u8 (.r 0 0),.int .u8 (.r 0 0),.int .u8 (.r 0 0),.int .u8 (.r 0 0)]⟩) (.nd (some ⟨.func,1,8,[.nilf]⟩) (.nd none (.lf) (.lf)) (.lf)) (.nd (some ⟨.arr 8 235,8,32,[.int .u32 (.r 0 0),.int .u32 (.r 0 0),.int .u32 (.r 0 0),.int .u32 (.r 0 0),.int .u32 (.r 0 0),.int .u32 (.r 0 0),.int .u32 (.r 0 0),.int .u32 (.r 0 0)]⟩) (.lf) (.lf)))) (.nd (some ⟨.str [(3,0),(3,1),(3,2),(3,3),(58,4),(3,5)],6,48,[.int .i64 (.r 0 0),.int .i64 (.r 0 0),.int .i64 (.r 0 0),.int .i64 (.r 0 0),.int .i64 (.r 0 0),.int .i64 (.r 0 0)]⟩) (.nd (some ⟨.str [(58,0),(23,1)],2,32,[.int .i64 (.r 0 0),.nils]⟩) (.nd (some ⟨.func,1,8,[.nilf]⟩) (.nd (some ⟨.func,1,8,[.nilf]⟩) (.lf) (.lf)) (.lf)) (.nd (some ⟨.func,1,8,[.nilf]⟩) (.nd none (.lf) (.lf)) (.lf))) (.nd (some ⟨.str [(23,0)],1,24,[.nils]⟩) (.nd (some ⟨.func,1,8,[.nilf]⟩) (.nd (some ⟨.func,1,8,[.nilf]⟩) (.lf) (.lf)) (.lf)) (.nd (some ⟨.str [(3,0),(23,1)],2,32,[.int .i64 (.r 0 0),.nils]⟩) (.lf) (.lf)))))
def tyT10:Tr TY:=.nd none (.nd (some ⟨.str [(17,0)],1,8,[.nilp]⟩) (.nd (some ⟨.func,1,8,[.nilf]⟩) (.nd (some ⟨.func,1,8,[.nilf]⟩) (.nd (some ⟨.func,1,8,[.nilf]⟩) (.nd (some ⟨.func,1,8,[.nilf]⟩) (.lf) (.lf)) (.lf)) (.nd (some ⟨.func,1,8,[.nilf]⟩) (.nd (some ⟨.ptr 5,1,8,[.nilp]⟩) (.lf) (.lf)) (.lf))) (.nd (some ⟨.str [(3,0),(3,1)],2,16,[.int .i64 (.r 0 0),.int .i64 (.r 0 0)]⟩) (.nd (some ⟨.str [(3,0),(3,1),(58,2),(23,3)],4,48,[.int .i64 (.r 0 0),.int .i64 (.r 0 0),.int .i64 (.r 0 0),.nils]⟩) (.nd (some ⟨.str [(3,0),(3,1),(3,2),(226,3),(184,4)],5,40,[.int .i64 (.r 0 0),.int .i64 (.r 0 0),.int .i64 (.r 0 0),.nilf,.nilf]⟩) (.lf) (.lf)) (.lf)) (.nd (some ⟨.func,1,8,[.nilf]⟩) (.lf) (.lf)))) (.nd (some ⟨.str [(3,0),(25,1),(25,5),(36,9)],12,96,rep 12 (.int .i64 (.r 0 0))⟩) (.nd (some ⟨.func,1,8,[.nilf]⟩) (.nd (some ⟨.ptr 142,1,8,[.nilp]⟩) (.nd (some ⟨.func,1,8,[.nilf]⟩) (.lf) (.lf)) (.lf)) (.nd (some ⟨.func,1,8,[.nilf]⟩) (.nd (some ⟨.arr 0 16,0,0,[]⟩) (.lf) (.lf)) (.lf))) (.nd (some ⟨.func,1,8,[.nilf]⟩) (.nd (some ⟨.func,1,8,[.nilf]⟩) (.nd (some ⟨.func,1,8,[.nilf]⟩) (.lf) (.lf)) (.lf)) (.nd (some ⟨.func,1,8,[.nilf]⟩) (.lf) (.lf))))) (.nd (some ⟨.arr 5 25,20,160,rep 20 (.int .i64 (.r 0 0))⟩) (.nd (some ⟨.str [(38,0),(39,12),(40,13),(41,14)],46,176,[.int .i64 (.r 0 0),.int .i64 (.r 0 0),.int .i64 (.r 0 0),.int .i64 (.r 0 0),.int .i64 (.r 0 0),.int .i64 (.r 0 0),.int .i64 (.r 0 0),.int .i64 (.r 0 0),.int .i64 (.r 0 0),.int .i64 (.r 0 0),.int .i64 (.r 0 0),.int .i64 (.r 0 0),.nils,.nils,.int .u8 (.r 0 0),.int .u8 (.r 0 0),.int .u8 (.r 0 0),.int .u8 (.r 0 0),.int .u8 (.r 0 0),.int .u8 (.r 0 0),.int .u8 (.r 0 0),.int .u8 (.r 0 0),.int .u8 (.r 0 0),.int .u8 (.r 0 0),.int .u8 (.r 0 0),.int .u8 (.r 0 0),.int .u8 (.r 0 0),.int .u8 (.r 0 0),.int .u8 (.r 0 0),.int .u8 (.r 0 0),.int .u8 (.r 0 0),.int .u8 (.r 0 0),.int .u8 (.r 0 0),.int .u8 (.r 0 0),.int .u8 (.r 0 0),.int .u8 (.r 0 0),.int .u8 (.r 0 0),.int .u8 (.r 0 0),.int .u8 (.r 0 0),.int .u8 (.r 0 0),.int .u8 (.r 0 0),.int .u8 (.r 0 0),.int .u8 (.r 0 0),.int .u8 (.r 0 0),.int .u8 (.r 0 0),.int .u8 (.r 0 0)]⟩) (.nd (some ⟨.func,1,8,[.nilf]⟩) (.nd (some ⟨.str [(4,0),(98,1)],3,24,[.ff,.int .i64 (.r 0 0),.int .i64 (.r 0 0)]⟩) (.nd (some ⟨.func,1,8,[.nilf]⟩) (.lf) (.lf)) (.lf)) (.nd (some ⟨.func,1,8,[.nilf]⟩) (.nd (some ⟨.ptr 312,1,8,[.nilp]⟩) (.lf) (.lf)) (.lf))) (.nd (some ⟨.ptr 145,1,8,[.nilp]⟩) (.nd none (.nd (some ⟨.func,1,8,[.nilf]⟩) (.lf) (.lf)) (.lf)) (.nd (some ⟨.func,1,8,[.nilf]⟩) (.lf) (.lf)))) (.nd (some ⟨.int .i64,1,8,[.int .i64 (.r 0 0)]⟩) (.nd (some ⟨.slice 93,1,24,[.nils]⟩) (.nd (some ⟨.slice 25,1,24,[.nils]⟩) (.nd (some ⟨.func,1,8,[.nilf]⟩) (.lf) (.lf)) (.lf)) (.nd (some ⟨.func,1,8,[.nilf]⟩) (.nd (some ⟨.str [(12,0),(12,1),(235,2),(341,3),(5,4),(5,5),(342,6),(343,7),(322,8),(344,9),(345,10)],11,48,[.int .u64 (.r 0 0),.int .u64 (.r 0 0),.int .u32 (.r 0 0),.int .u8 (.r 0 0),.int .u8 (.r 0 0),.int .u8 (.r 0 0),.int .u8 (.r 0 0),.nilf,.nilp,.int .i32 (.r 0 0),.int .i32 (.r 0 0)]⟩) (.lf) (.lf)) (.lf))) (.nd (some ⟨.func,1,8,[.nilf]⟩) (.nd (some ⟨.func,1,8,[.nilf]⟩) (.nd (some ⟨.func,1,8,[.nilf]⟩) (.lf) (.lf)) (.lf)) (.nd (some ⟨.func,1,8,[.nilf]⟩) (.lf) (.lf)))))
def tyT14:Tr TY:=.nd none (.nd (some ⟨.arr 5 3,5,40,[.int .i64 (.r 0 0),.int .i64 (.r 0 0),.int .i64 (.r 0 0),.int .i64 (.r 0 0),.int .i64 (.r 0 0)]⟩) (.nd (some ⟨.str [(3,0),(3,1),(25,2),(36,6),(36,9)],12,96,rep 12 (.int .i64 (.r 0 0))⟩) (.nd (some ⟨.str [(67,0),(58,1),(69,2)],5,40,[.nilp,.int .i64 (.r 0 0),.nilp,.nilp,.nilp]⟩) (.nd (some ⟨.int .u64,1,8,[.int .u64 (.r 0 0)]⟩) (.nd none (.lf) (.lf)) (.lf)) (.nd (some ⟨.func,1,8,[.nilf]⟩) (.nd (some ⟨.func,1,8,[.nilf]⟩) (.lf) (.lf)) (.lf))) (.nd (some ⟨.arr 8 5,8,8,[.int .u8 (.r 0 0),.int .u8 (.r 0 0),.int .u8 (.r 0 0),.int .u8 (.r 0 0),.int .u8 (.r 0 0),.int .u8 (.r 0 0),.int .u8 (.r 0 0),.int .u8 (.r 0 0)]⟩) (.nd (some ⟨.func,1,8,[.nilf]⟩) (.nd (some ⟨.ptr 4,1,8,[.nilp]⟩) (.lf) (.lf)) (.lf)) (.nd (some ⟨.func,1,8,[.nilf]⟩) (.lf) (.lf)))) (.nd (some ⟨.str [(3,0),(3,1),(3,2),(3,3),(36,4),(51,7),(52,19),(53,20),(22,25),(4,30)],31,232,[.int .i64 (.r 0 0),.int .i64 (.r 0 0),.int .i64 (.r 0 0),.int .i64 (.r 0 0),.int .i64 (.r 0 0),.int .i64 (.r 0 0),.int .i64 (.r 0 0),.int .i64 (.r 0 0),.int .i64 (.r 0 0),.int .i64 (.r 0 0),.int .i64 (.r 0 0),.int .i64 (.r 0 0),.int .i64 (.r 0 0),.int .i64 (.r 0 0),.int .i64 (.r 0 0),.int .i64 (.r 0 0),.int .i64 (.r 0 0),.int .i64 (.r 0 0),.int .i64 (.r 0 0),.nils,.ff,.ff,.ff,.ff,.ff,.int .i64 (.r 0 0),.int .i64 (.r 0 0),.int .i64 (.r 0 0),.int .i64 (.r 0 0),.int .i64 (.r 0 0),.ff]⟩) (.nd (some ⟨.func,1,8,[.nilf]⟩) (.nd (some ⟨.slice 23,1,24,[.nils]⟩) (.nd (some ⟨.func,1,8,[.nilf]⟩) (.lf) (.lf)) (.lf)) (.nd (some ⟨.func,1,8,[.nilf]⟩) (.nd (some ⟨.int .u8,1,1,[.int .u8 (.r 0 0)]⟩) (.lf) (.lf)) (.lf))) (.nd (some ⟨.func,1,8,[.nilf]⟩) (.nd (some ⟨.func,1,8,[.nilf]⟩) (.nd none (.lf) (.lf)) (.lf)) (.nd (some ⟨.ptr 169,1,8,[.nilp]⟩) (.lf) (.lf))))) (.nd (some ⟨.func,1,8,[.nilf]⟩) (.nd (some ⟨.str [(4,0),(25,1),(4,5)],6,48,[.ff,.int .i64 (.r 0 0),.int .i64 (.r 0 0),.int .i64 (.r 0 0),.int .i64 (.r 0 0),.ff]⟩) (.nd (some ⟨.str [(61,0)],1,24,[.nils]⟩) (.nd (some ⟨.str [(138,0),(3,3),(41,4),(140,36)],39,88,[.ff,.int .i64 (.r 0 0),.int .i64 (.r 0 0),.int .i64 (.r 0 0),.int .u8 (.r 0 0),.int .u8 (.r 0 0),.int .u8 (.r 0 0),.int .u8 (.r 0 0),.int .u8 (.r 0 0),.int .u8 (.r 0 0),.int .u8 (.r 0 0),.int .u8 (.r 0 0),.int .u8 (.r 0 0),.int .u8 (.r 0 0),.int .u8 (.r 0 0),.int .u8 (.r 0 0),.int .u8 (.r 0 0),.int .u8 (.r 0 0),.int .u8 (.r 0 0),.int .u8 (.r 0 0),.int .u8 (.r 0 0),.int .u8 (.r 0 0),.int .u8 (.r 0 0),.int .u8 (.r 0 0),.int .u8 (.r 0 0),.int .u8 (.r 0 0),.int .u8 (.r 0 0),.int .u8 (.r 0 0),.int .u8 (.r 0 0),.int .u8 (.r 0 0),.int .u8 (.r 0 0),.int .u8 (.r 0 0),.int .u8 (.r 0 0),.int .u8 (.r 0 0),.int .u8 (.r 0 0),.int .u8 (.r 0 0),.ff,.int .i64 (.r 0 0),.int .u64 (.r 0 0)]⟩) (.nd (some ⟨.func,1,8,[.nilf]⟩) (.lf) (.lf)) (.lf)) (.nd none (.nd (some ⟨.func,1,8,[.nilf]⟩) (.lf) (.lf)) (.lf))) (.nd (some ⟨.func,1,8,[.nilf]⟩) (.nd none (.nd (some ⟨.func,1,8,[.nilf]⟩) (.lf) (.lf)) (.lf)) (.nd (some ⟨.func,1,8,[.nilf]⟩) (.lf) (.lf)))) (.nd none (.nd (some ⟨.func,1,8,[.nilf]⟩) (.nd (some ⟨.str [(132,0),(3,1),(134,2)],3,40,[.nils,.int .i64 (.r 0 0),.int .u64 (.r 0 0)]⟩) (.nd (some ⟨.func,1,8,[.nilf]⟩) (.lf) (.lf)) (.lf)) (.nd (some ⟨.func,1,8,[.nilf]⟩) (.lf) (.lf))) (.nd none (.nd (some ⟨.func,1,8,[.nilf]⟩) (.nd (some ⟨.func,1,8,[.nilf]⟩) (.lf) (.lf)) (.lf)) (.nd (some ⟨.func,1,8,[.nilf]⟩) (.lf) (.lf)))))
def tyT:Tr TY:=.nd none (.nd (some ⟨.func,1,8,[.nilf]⟩) (.nd (some ⟨.int .i64,1,8,[.int .i64 (.r 0 0)]⟩) (tyT7) (tyT11)) (.nd (some ⟨.int .u8,1,1,[.int .u8 (.r 0 0)]⟩) (tyT9) (tyT13))) (.nd (some ⟨.int .i64,1,8,[.int .i64 (.r 0 0)]⟩) (.nd (some ⟨.bool,1,1,[.ff]⟩) (tyT8) (tyT12)) (.nd (some ⟨.int .u8,1,1,[.int .u8 (.r 0 0)]⟩) (tyT10) (tyT14)))
noncomputable def fnT7:Tr Func:=.nd (some Tryz.f7) (.nd (some Tryz.f15) (.nd (some Tryz.f31) (.nd (some Tryz.f63) (.nd (some Tryz.f127) (.nd none (.lf) (.lf)) (.lf)) (.nd (some Tryz.f191) (.lf) (.lf))) (.nd (some Tryz.f95) (.nd (some Tryz.f159) (.lf) (.lf)) (.nd (some Tryz.f223) (.lf) (.lf)))) (.nd (some Tryz.f47) (.nd (some Tryz.f79) (.nd (some Tryz.f143) (.lf) (.lf)) (.nd (some Tryz.f207) (.lf) (.lf))) (.nd (some Tryz.f111) (.nd (some Tryz.f175) (.lf) (.lf)) (.nd (some Tryz.f239) (.lf) (.lf))))) (.nd (some Tryz.f23) (.nd (some Tryz.f39) (.nd (some Tryz.f71) (.nd (some Tryz.f135) (.nd (some Tryz.f263) (.lf) (.lf)) (.lf)) (.nd (some Tryz.f199) (.lf) (.lf))) (.nd (some Tryz.f103) (.nd (some Tryz.f167) (.lf) (.lf)) (.nd (some Tryz.f231) (.lf) (.lf)))) (.nd (some Tryz.f55) (.nd (some Tryz.f87) (.nd (some Tryz.f151) (.lf) (.lf)) (.nd (some Tryz.f215) (.lf) (.lf))) (.nd (some Tryz.f119) (.nd (some Tryz.f183) (.lf) (.lf)) (.nd none (.lf) (.lf)))))
noncomputable def fnT11:Tr Func:=.nd (some Tryz.f11) (.nd (some Tryz.f19) (.nd (some Tryz.f35) (.nd (some Tryz.f67) (.nd (some Tryz.f131) (.nd (some Tryz.f259) (.lf) (.lf)) (.lf)) (.nd (some Tryz.f195) (.lf) (.lf))) (.nd (some Tryz.f99) (.nd (some Tryz.f163) (.lf) (.lf)) (.nd (some Tryz.f227) (.lf) (.lf)))) (.nd (some Tryz.f51) (.nd (some Tryz.f83) (.nd (some Tryz.f147) (.lf) (.lf)) (.nd (some Tryz.f211) (.lf) (.lf))) (.nd (some Tryz.f115) (.nd (some Tryz.f179) (.lf) (.lf)) (.nd none (.lf) (.lf))))) (.nd (some Tryz.f27) (.nd (some Tryz.f43) (.nd (some Tryz.f75) (.nd (some Tryz.f139) (.lf) (.lf)) (.nd (some Tryz.f203) (.lf) (.lf))) (.nd (some Tryz.f107) (.nd (some Tryz.f171) (.lf) (.lf)) (.nd (some Tryz.f235) (.lf) (.lf)))) (.nd (some Tryz.f59) (.nd (some Tryz.f91) (.nd (some Tryz.f155) (.lf) (.lf)) (.nd (some Tryz.f219) (.lf) (.lf))) (.nd (some Tryz.f123) (.nd (some Tryz.f187) (.lf) (.lf)) (.nd none (.lf) (.lf)))))
noncomputable def fnT9:Tr Func:=.nd (some Tryz.f9) (.nd (some Tryz.f17) (.nd (some Tryz.f33) (.nd (some Tryz.f65) (.nd (some Tryz.f129) (.nd none (.lf) (.lf)) (.lf)) (.nd (some Tryz.f193) (.lf) (.lf))) (.nd (some Tryz.f97) (.nd (some Tryz.f161) (.lf) (.lf)) (.nd (some Tryz.f225) (.lf) (.lf)))) (.nd (some Tryz.f49) (.nd (some Tryz.f81) (.nd (some Tryz.f145) (.lf) (.lf)) (.nd (some Tryz.f209) (.lf) (.lf))) (.nd (some Tryz.f113) (.nd (some Tryz.f177) (.lf) (.lf)) (.nd none (.lf) (.lf))))) (.nd (some Tryz.f25) (.nd (some Tryz.f41) (.nd (some Tryz.f73) (.nd (some Tryz.f137) (.lf) (.lf)) (.nd (some Tryz.f201) (.lf) (.lf))) (.nd (some Tryz.f105) (.nd (some Tryz.f169) (.lf) (.lf)) (.nd (some Tryz.f233) (.lf) (.lf)))) (.nd (some Tryz.f57) (.nd (some Tryz.f89) (.nd (some Tryz.f153) (.lf) (.lf)) (.nd (some Tryz.f217) (.lf) (.lf))) (.nd (some Tryz.f121) (.nd (some Tryz.f185) (.lf) (.lf)) (.nd none (.lf) (.lf)))))
noncomputable def fnT13:Tr Func:=.nd (some Tryz.f13) (.nd (some Tryz.f21) (.nd (some Tryz.f37) (.nd (some Tryz.f69) (.nd (some Tryz.f133) (.nd (some Tryz.f261) (.lf) (.lf)) (.lf)) (.nd (some Tryz.f197) (.lf) (.lf))) (.nd (some Tryz.f101) (.nd (some Tryz.f165) (.lf) (.lf)) (.nd (some Tryz.f229) (.lf) (.lf)))) (.nd (some Tryz.f53) (.nd (some Tryz.f85) (.nd (some Tryz.f149) (.lf) (.lf)) (.nd (some Tryz.f213) (.lf) (.lf))) (.nd (some Tryz.f117) (.nd (some Tryz.f181) (.lf) (.lf)) (.nd none (.lf) (.lf))))) (.nd (some Tryz.f29) (.nd (some Tryz.f45) (.nd (some Tryz.f77) (.nd (some Tryz.f141) (.lf) (.lf)) (.nd (some Tryz.f205) (.lf) (.lf))) (.nd (some Tryz.f109) (.nd (some Tryz.f173) (.lf) (.lf)) (.nd (some Tryz.f237) (.lf) (.lf)))) (.nd (some Tryz.f61) (.nd (some Tryz.f93) (.nd (some Tryz.f157) (.lf) (.lf)) (.nd (some Tryz.f221) (.lf) (.lf))) (.nd (some Tryz.f125) (.nd (some Tryz.f189) (.lf) (.lf)) (.nd none (.lf) (.lf)))))
noncomputable def fnT8:Tr Func:=.nd (some Tryz.f8) (.nd (some Tryz.f16) (.nd (some Tryz.f32) (.nd (some Tryz.f64) (.nd (some Tryz.f128) (.nd none (.lf) (.lf)) (.lf)) (.nd (some Tryz.f192) (.lf) (.lf))) (.nd (some Tryz.f96) (.nd (some Tryz.f160) (.lf) (.lf)) (.nd (some Tryz.f224) (.lf) (.lf)))) (.nd (some Tryz.f48) (.nd (some Tryz.f80) (.nd (some Tryz.f144) (.lf) (.lf)) (.nd (some Tryz.f208) (.lf) (.lf))) (.nd (some Tryz.f112) (.nd (some Tryz.f176) (.lf) (.lf)) (.nd (some Tryz.f240) (.lf) (.lf))))) (.nd (some Tryz.f24) (.nd (some Tryz.f40) (.nd (some Tryz.f72) (.nd (some Tryz.f136) (.nd (some Tryz.f264) (.lf) (.lf)) (.lf)) (.nd (some Tryz.f200) (.lf) (.lf))) (.nd (some Tryz.f104) (.nd (some Tryz.f168) (.lf) (.lf)) (.nd (some Tryz.f232) (.lf) (.lf)))) (.nd (some Tryz.f56) (.nd (some Tryz.f88) (.nd (some Tryz.f152) (.lf) (.lf)) (.nd (some Tryz.f216) (.lf) (.lf))) (.nd (some Tryz.f120) (.nd (some Tryz.f184) (.lf) (.lf)) (.nd none (.lf) (.lf)))))
noncomputable def fnT12:Tr Func:=.nd (some Tryz.f12) (.nd (some Tryz.f20) (.nd (some Tryz.f36) (.nd (some Tryz.f68) (.nd (some Tryz.f132) (.nd (some Tryz.f260) (.lf) (.lf)) (.lf)) (.nd (some Tryz.f196) (.lf) (.lf))) (.nd (some Tryz.f100) (.nd (some Tryz.f164) (.lf) (.lf)) (.nd (some Tryz.f228) (.lf) (.lf)))) (.nd (some Tryz.f52) (.nd (some Tryz.f84) (.nd (some Tryz.f148) (.lf) (.lf)) (.nd (some Tryz.f212) (.lf) (.lf))) (.nd (some Tryz.f116) (.nd (some Tryz.f180) (.lf) (.lf)) (.nd none (.lf) (.lf))))) (.nd (some Tryz.f28) (.nd (some Tryz.f44) (.nd (some Tryz.f76) (.nd (some Tryz.f140) (.lf) (.lf)) (.nd (some Tryz.f204) (.lf) (.lf))) (.nd (some Tryz.f108) (.nd (some Tryz.f172) (.lf) (.lf)) (.nd (some Tryz.f236) (.lf) (.lf)))) (.nd (some Tryz.f60) (.nd (some Tryz.f92) (.nd (some Tryz.f156) (.lf) (.lf)) (.nd (some Tryz.f220) (.lf) (.lf))) (.nd (some Tryz.f124) (.nd none (.lf) (.lf)) (.nd none (.lf) (.lf)))))
noncomputable def fnT10:Tr Func:=.nd (some Tryz.f10) (.nd (some Tryz.f18) (.nd (some Tryz.f34) (.nd (some Tryz.f66) (.nd (some Tryz.f130) (.nd (some Tryz.f258) (.lf) (.lf)) (.lf)) (.nd (some Tryz.f194) (.lf) (.lf))) (.nd (some Tryz.f98) (.nd (some Tryz.f162) (.lf) (.lf)) (.nd (some Tryz.f226) (.lf) (.lf)))) (.nd (some Tryz.f50) (.nd (some Tryz.f82) (.nd (some Tryz.f146) (.lf) (.lf)) (.nd (some Tryz.f210) (.lf) (.lf))) (.nd (some Tryz.f114) (.nd (some Tryz.f178) (.lf) (.lf)) (.nd none (.lf) (.lf))))) (.nd (some Tryz.f26) (.nd (some Tryz.f42) (.nd (some Tryz.f74) (.nd (some Tryz.f138) (.lf) (.lf)) (.nd (some Tryz.f202) (.lf) (.lf))) (.nd (some Tryz.f106) (.nd (some Tryz.f170) (.lf) (.lf)) (.nd (some Tryz.f234) (.lf) (.lf)))) (.nd (some Tryz.f58) (.nd (some Tryz.f90) (.nd (some Tryz.f154) (.lf) (.lf)) (.nd (some Tryz.f218) (.lf) (.lf))) (.nd (some Tryz.f122) (.nd (some Tryz.f186) (.lf) (.lf)) (.nd none (.lf) (.lf)))))
noncomputable def fnT14:Tr Func:=.nd (some Tryz.f14) (.nd (some Tryz.f22) (.nd (some Tryz.f38) (.nd (some Tryz.f70) (.nd (some Tryz.f134) (.nd (some Tryz.f262) (.lf) (.lf)) (.lf)) (.nd (some Tryz.f198) (.lf) (.lf))) (.nd (some Tryz.f102) (.nd (some Tryz.f166) (.lf) (.lf)) (.nd (some Tryz.f230) (.lf) (.lf)))) (.nd (some Tryz.f54) (.nd (some Tryz.f86) (.nd (some Tryz.f150) (.lf) (.lf)) (.nd (some Tryz.f214) (.lf) (.lf))) (.nd (some Tryz.f118) (.nd (some Tryz.f182) (.lf) (.lf)) (.nd none (.lf) (.lf))))) (.nd (some Tryz.f30) (.nd (some Tryz.f46) (.nd (some Tryz.f78) (.nd (some Tryz.f142) (.lf) (.lf)) (.nd (some Tryz.f206) (.lf) (.lf))) (.nd (some Tryz.f110) (.nd (some Tryz.f174) (.lf) (.lf)) (.nd (some Tryz.f238) (.lf) (.lf)))) (.nd (some Tryz.f62) (.nd (some Tryz.f94) (.nd (some Tryz.f158) (.lf) (.lf)) (.nd (some Tryz.f222) (.lf) (.lf))) (.nd (some Tryz.f126) (.nd (some Tryz.f190) (.lf) (.lf)) (.nd none (.lf) (.lf)))))
noncomputable def fnT:Tr Func:=.nd none (.nd none (.nd (some Tryz.f3) (fnT7) (fnT11)) (.nd (some Tryz.f5) (fnT9) (fnT13))) (.nd none (.nd (some Tryz.f4) (fnT8) (fnT12)) (.nd (some Tryz.f6) (fnT10) (fnT14)))
end SE
end
section
namespace SE
def allT {α:Type} (f:Nat→α→Bool):Tr α→Nat→Nat→Bool
 | .lf,_,_=>true
 | .nd v l r,x,y=>(match v with | some v=>f y v | none=>true)&&(allT f l (2*x) (x+y)&&allT f r (2*x) (2*x+y))
theorem allT_ok {α:Type} {f:Nat→α→Bool}:∀ {t:Tr α} {x y j:Nat} {v:α},allT f t x y=true→t.get j=some v→f (x*j+y) v=true
 | .lf,x,y,j,v,h,e=>by simp [Tr.get] at e
 | .nd u l r,x,y,j,v,h,e=>by
  simp only [allT,Bool.and_eq_true] at h
  simp only [Tr.get] at e
  cases h0:Nat.beq j 0 with
  | true =>
   rw [h0] at e
   simp only [cond_true] at e
   subst e
   have:=nbeq h0
   subst this
   simpa using h.1
  | false =>
   rw [h0] at e
   simp only [cond_false] at e
   have hj:=nbeq_false h0
   cases h1:Nat.beq (j % 2) 1 with
   | true =>
    rw [h1] at e
    have hm:=nbeq h1
    have:=allT_ok h.2.1 e
    have hx:2*x*(j / 2)+(x+y)=x*j+y:=by
     have hj2:j=2*(j / 2)+1:=by omega
     generalize j / 2=q at hj2
     subst hj2
     rw [Nat.mul_add,Nat.mul_one,← Nat.mul_assoc,Nat.mul_comm x 2]
     omega
    rwa [hx] at this
   | false =>
    rw [h1] at e
    have hm:=nbeq_false h1
    have:=allT_ok h.2.2 e
    have hx:2*x*(j / 2 - 1)+(2*x+y)=x*j+y:=by
     have hj2:j=2*(j / 2 - 1+1):=by omega
     generalize j / 2 - 1=q at hj2
     subst hj2
     rw [Nat.mul_add,Nat.mul_add,← Nat.mul_assoc,Nat.mul_comm x 2]
     omega
    rwa [hx] at this
def AllT {α:Type} (p:Nat→α→Prop):Tr α→Nat→Nat→Prop
 | .lf,_,_=>True
 | .nd v l r,x,y=>(match v with | some v=>p y v | none=>True)∧AllT p l (2*x) (x+y)∧AllT p r (2*x) (2*x+y)
theorem AllT_ok {α:Type} {p:Nat→α→Prop}:∀ {t:Tr α} {x y j:Nat} {v:α},AllT p t x y→t.get j=some v→p (x*j+y) v
 | .lf,x,y,j,v,h,e=>by simp [Tr.get] at e
 | .nd u l r,x,y,j,v,h,e=>by
  simp only [AllT] at h
  simp only [Tr.get] at e
  cases h0:Nat.beq j 0 with
  | true =>
   rw [h0] at e
   simp only [cond_true] at e
   subst e
   have:=nbeq h0
   subst this
   simpa using h.1
  | false =>
   rw [h0] at e
   simp only [cond_false] at e
   have hj:=nbeq_false h0
   cases h1:Nat.beq (j % 2) 1 with
   | true =>
    rw [h1] at e
    have hm:=nbeq h1
    have:=AllT_ok h.2.1 e
    have hx:2*x*(j / 2)+(x+y)=x*j+y:=by
     have hj2:j=2*(j / 2)+1:=by omega
     generalize j / 2=q at hj2
     subst hj2
     rw [Nat.mul_add,Nat.mul_one,← Nat.mul_assoc,Nat.mul_comm x 2]
     omega
    rwa [hx] at this
   | false =>
    rw [h1] at e
    have hm:=nbeq_false h1
    have:=AllT_ok h.2.2 e
    have hx:2*x*(j / 2 - 1)+(2*x+y)=x*j+y:=by
     have hj2:j=2*(j / 2 - 1+1):=by omega
     generalize j / 2 - 1=q at hj2
     subst hj2
     rw [Nat.mul_add,Nat.mul_add,← Nat.mul_assoc,Nat.mul_comm x 2]
     omega
    rwa [hx] at this
def zB:SV→Value→Bool
 | .int k (.r n m),.int j z=>eqK k j&&(decide (n=z)&&decide (m=z))
 | .ff,.bool b=>!b
 | .tt,.bool b=>b
 | .nilp,.pointer none=>true
 | .nils,.slice none a b=>Nat.beq a 0&&Nat.beq b 0
 | .nilf,.nilFunc=>true
 | .nili,.nilIface=>true
 | _,_=>false
theorem zB_ok {s:SV} {v:Value} (h:zB s v=true) (E:Env):R E s v:=by
 unfold zB at h
 split at h
 case h_1 =>
  simp only [Bool.and_eq_true,decide_eq_true_eq] at h
  obtain ⟨h1,h2,h3⟩:=h
  have:=eqK_iff h1
  subst this
  simp only [R,SIok]
  exact ⟨_,⟨by omega,by omega⟩,rfl⟩
 case h_2 b=>cases b <;> simp [R] at h ⊢
 case h_3 b=>cases b <;> simp [R] at h ⊢
 case h_5 =>
  simp only [Bool.and_eq_true] at h
  have h1:=nbeq h.1
  have h2:=nbeq h.2
  subst h1; subst h2
  simp only [R]
 case h_8=>cases h
 all_goals simp only [R]
def zL:List SV→List Value→Bool
 | [],[]=>true
 | s::l,v::m=>zB s v&&zL l m
 | _,_=>false
theorem zL_ok:∀ {l:List SV} {m:List Value},zL l m=true→∀ E,RL E l m
 | [],[],h,E=>by simp [RL]
 | s::l,v::m,h,E=>by
  simp only [zL,Bool.and_eq_true] at h
  simp only [RL]
  exact ⟨v,m,rfl,zB_ok h.1 E,zL_ok h.2 E⟩
 | [],v::m,h,E=>by simp [zL] at h
 | s::l,[],h,E=>by simp [zL] at h
def fsB:List (Nat×Nat)→List Field→Bool
 | [],[]=>true
 | (t,o)::l,f::m=>Nat.beq t f.type&&(Nat.beq o f.offset&&fsB l m)
 | _,_=>false
theorem fsB_ok:∀ {l:List (Nat×Nat)} {m:List Field},fsB l m=true→m.map (fun f=>(f.type,f.offset))=l
 | [],[],h=>rfl
 | (t,o)::l,f::m,h=>by
  simp only [fsB,Bool.and_eq_true] at h
  have h1:=nbeq h.1
  have h2:=nbeq h.2.1
  rw [List.map_cons,fsB_ok h.2.2,← h1,← h2]
 | [],f::m,h=>by simp [fsB] at h
 | p::l,[],h=>by simp [fsB] at h
def udB:UD→TypeDesc→Bool
 | .bool,.bool=>true
 | .int k,.int j=>eqK j k
 | .ptr e,.pointer x=>Nat.beq x e
 | .slice e,.slice x=>Nat.beq x e
 | .arr n e,.array m x=>Nat.beq m n&&Nat.beq x e
 | .str fs,.struct gs=>fsB fs gs.toList
 | .map k e,.map l x=>Nat.beq l k&&Nat.beq x e
 | .func,.func ..=>true
 | .iface,.interface _=>true
 | .other,.float _=>true
 | .other,.string=>true
 | .other,.chan ..=>true
 | .other,.unsafePointer=>true
 | .other,.tuple _=>true
 | _,_=>false
theorem udB_ok {u:UD} {d:TypeDesc} (h:udB u d=true):UDok u d:=by
 unfold udB at h
 split at h <;> try cases h
 all_goals simp only [UDok]
 ·exact eqK_iff h
 ·exact nbeq h
 ·exact nbeq h
 ·simp only [Bool.and_eq_true] at h; exact ⟨nbeq h.1,nbeq h.2⟩
 ·exact fsB_ok h
 ·simp only [Bool.and_eq_true] at h; exact ⟨nbeq h.1,nbeq h.2⟩
def tyB (P:Program) (t:Nat) (y:TY):Bool :=
 match P.underlying t,P.info? t with
 | some d,some i=>Nat.beq i.size y.size&&(Nat.beq i.bytes y.bytes&&(udB y.und d&&(allCell y.zero&&(Nat.beq y.zero.length y.size&&(match i.zero with
  | some z=>zL y.zero z.cells.toList
  | none=>false)))))
 | _,_=>false
theorem tyB_ok {P:Program} {t:Nat} {y:TY} (h:tyB P t y=true):∃ d i,P.underlying t=some d∧P.info? t=some i∧i.size=y.size∧i.bytes=y.bytes∧UDok y.und d∧allCell y.zero=true∧y.zero.length=y.size ∧
  ∃ z,i.zero=some z∧∀ E,RL E y.zero z.cells.toList:=by
 unfold tyB at h
 cases hd:P.underlying t with
 | none=>simp only [hd] at h; cases h
 | some d =>
  cases hi:P.info? t with
  | none=>simp only [hd,hi] at h; cases h
  | some i =>
   simp only [hd,hi,Bool.and_eq_true] at h
   obtain ⟨h1,h2,h3,h4,h5,h6⟩:=h
   cases hz:i.zero with
   | none=>simp only [hz] at h6; cases h6
   | some z =>
    simp only [hz] at h6
    exact ⟨d,i,rfl,rfl,nbeq h1,nbeq h2,udB_ok h3,h4,nbeq h5,z,hz,fun E=>zL_ok h6 E⟩
def methB (P:Program) (t:Nat) (nm:String):Option (Nat×Option Nat) :=
 match P.info? t with
 | none=>none
 | some i=>match i.methods.find? (·.name == nm) with
  | none=>none
  | some m=>bif m.path.isEmpty then
   (match m.func with
   | some (g,pr)=>match P.underlying t with
    | some (.pointer e)=>bif pr then some (g,none) else some (g,some e)
    | some _=>bif pr then none else some (g,none)
    | none=>none
   | none=>none) else none
theorem meth_dir {P:Program} {t g n:Nat} {nm:String} (h:methB P t nm=some (g,none)) (v:Value) (w:World):(method (n+1) t v nm).run P w=.ok (g,v) w:=by
 unfold methB at h
 cases hi:P.info? t with
 | none=>simp only [hi] at h; cases h
 | some i =>
  simp only [hi] at h
  cases hm:i.methods.find? (·.name == nm) with
  | none=>simp only [hm] at h; cases h
  | some m =>
   simp only [hm,cond_eq_ite] at h
   split at h
   ·rename_i hp
    cases hf:m.func with
    | none=>simp only [hf] at h; cases h
    | some q =>
     obtain ⟨g',pr⟩:=q
     simp only [hf] at h
     have hpl:m.path.toList=[]:=by simpa using hp
     cases hu:P.underlying t with
     | none=>simp only [hu] at h; cases h
     | some d =>
      simp only [hu] at h
      unfold method
      simp only [typeInfo,Sem.run_bind,run_program,Result.andThen_ok,hi,Sem.run_pure,hm,hpl,follow,hf,receiverAt,und_run hu]
      cases d with
      | pointer e =>
       cases pr <;> simp at h
       subst h
       simp [Place.get]
      | _ =>
       cases pr <;> simp at h
       subst h
       simp [Place.get]
   ·cases h
theorem meth_load {P:Program} {t g n e:Nat} {nm:String} (h:methB P t nm=some (g,some e)) {v z:Value} {w:World} (hl:(Instr.loadAt e v).run P w=.ok z w):(method (n+1) t v nm).run P w=.ok (g,z) w:=by
 unfold methB at h
 cases hi:P.info? t with
 | none=>simp only [hi] at h; cases h
 | some i =>
  simp only [hi] at h
  cases hm:i.methods.find? (·.name == nm) with
  | none=>simp only [hm] at h; cases h
  | some m =>
   simp only [hm,cond_eq_ite] at h
   split at h
   ·rename_i hp
    cases hf:m.func with
    | none=>simp only [hf] at h; cases h
    | some q =>
     obtain ⟨g',pr⟩:=q
     simp only [hf] at h
     have hpl:m.path.toList=[]:=by simpa using hp
     cases hu:P.underlying t with
     | none=>simp only [hu] at h; cases h
     | some d =>
      simp only [hu] at h
      have hv:∃ a,v=.pointer (some a)∧(loadVar e a).run P w=.ok z w:=by
       unfold Instr.loadAt at hl
       cases v with
       | pointer p =>
        cases p with
        | some a=>exact ⟨a,rfl,by simpa [Instr.sureAddr] using hl⟩
        | none=>simp [Instr.sureAddr] at hl
       | _=>simp [Instr.sureAddr] at hl
      obtain ⟨a,rfl,hl'⟩:=hv
      unfold method
      simp only [typeInfo,Sem.run_bind,run_program,Result.andThen_ok,hi,Sem.run_pure,hm,hpl,follow,hf,receiverAt,und_run hu]
      cases d with
      | pointer e' =>
       cases pr <;> simp at h
       obtain ⟨rfl,rfl⟩:=h
       have hw:∀ s,Builtin.ssaWrapNilChk_ #[t] t #[.pointer (some a),strVal "",strVal s]=pure (.pointer (some a)):=fun s=>rfl
       simp only [Place.get,hp,if_true,Sem.run_bind,Sem.run_pure,Result.andThen_ok,hw,asAddr,hl']
      | _=>cases pr <;> simp at h
   ·cases h
def invT (t:Nat) (nm:String):Option (Nat×Option Nat) :=
 bif Nat.beq t 132 then
  (if nm = "Len" then some (260,none) else if nm = "Less" then some (261,none) else if nm = "Swap" then some (262,none) else none)
 else bif Nat.beq t 215 then
  (if nm = "Len" then some (260,some 132) else if nm = "Less" then some (261,some 132) else if nm = "Swap" then some (262,some 132) else if nm = "Pop" then some (263,none) else if nm = "Push" then some (264,none) else none)
 else none
theorem invT_ok {t:Nat} {nm:String} {r:Nat×Option Nat} (h:invT t nm=some r):methB Tryz.prog t nm=some r:=by
 unfold invT at h
 cases h1:Nat.beq t 132 with
 | true =>
  have:=nbeq h1
  subst this
  simp only [h1,cond_true] at h
  split at h
  ·rename_i hn; subst hn; cases h; decide +kernel
  ·split at h
   ·rename_i hn; subst hn; cases h; decide +kernel
   ·split at h
    ·rename_i hn; subst hn; cases h; decide +kernel
    ·cases h
 | false =>
  simp only [h1,cond_false] at h
  cases h2:Nat.beq t 215 with
  | true =>
   have:=nbeq h2
   subst this
   simp only [h2,cond_true] at h
   split at h
   ·rename_i hn; subst hn; cases h; decide +kernel
   ·split at h
    ·rename_i hn; subst hn; cases h; decide +kernel
    ·split at h
     ·rename_i hn; subst hn; cases h; decide +kernel
     ·split at h
      ·rename_i hn; subst hn; cases h; decide +kernel
      ·split at h
       ·rename_i hn; subst hn; cases h; decide +kernel
       ·cases h
  | false=>simp only [h2,cond_false] at h; cases h
theorem tyT_all:allT (tyB Tryz.prog) tyT 1 0=true:=by decide +kernel
theorem fnT_name:allT (fun _ fn=>!(fn.name == "runtime.NumGoroutine")&&!fn.body.isNone) fnT 1 0=true:=by decide +kernel
theorem fnT_all:AllT (fun g fn=>Tryz.prog.funcs[g]?=some fn) fnT 1 0 :=
 ⟨trivial,⟨trivial,⟨Tryz.func3,⟨Tryz.func7,⟨Tryz.func15,⟨Tryz.func31,⟨Tryz.func63,⟨Tryz.func127,⟨trivial,trivial,trivial⟩,trivial⟩,⟨Tryz.func191,trivial,trivial⟩⟩,⟨Tryz.func95,⟨Tryz.func159,trivial,trivial⟩,⟨Tryz.func223,trivial,trivial⟩⟩⟩,⟨Tryz.func47,⟨Tryz.func79,⟨Tryz.func143,trivial,trivial⟩,⟨Tryz.func207,trivial,trivial⟩⟩,⟨Tryz.func111,⟨Tryz.func175,trivial,trivial⟩,⟨Tryz.func239,trivial,trivial⟩⟩⟩⟩,⟨Tryz.func23,⟨Tryz.func39,⟨Tryz.func71,⟨Tryz.func135,⟨Tryz.func263,trivial,trivial⟩,trivial⟩,⟨Tryz.func199,trivial,trivial⟩⟩,⟨Tryz.func103,⟨Tryz.func167,trivial,trivial⟩,⟨Tryz.func231,trivial,trivial⟩⟩⟩,⟨Tryz.func55,⟨Tryz.func87,⟨Tryz.func151,trivial,trivial⟩,⟨Tryz.func215,trivial,trivial⟩⟩,⟨Tryz.func119,⟨Tryz.func183,trivial,trivial⟩,⟨trivial,trivial,trivial⟩⟩⟩⟩⟩,⟨Tryz.func11,⟨Tryz.func19,⟨Tryz.func35,⟨Tryz.func67,⟨Tryz.func131,⟨Tryz.func259,trivial,trivial⟩,trivial⟩,⟨Tryz.func195,trivial,trivial⟩⟩,⟨Tryz.func99,⟨Tryz.func163,trivial,trivial⟩,⟨Tryz.func227,trivial,trivial⟩⟩⟩,⟨Tryz.func51,⟨Tryz.func83,⟨Tryz.func147,trivial,trivial⟩,⟨Tryz.func211,trivial,trivial⟩⟩,⟨Tryz.func115,⟨Tryz.func179,trivial,trivial⟩,⟨trivial,trivial,trivial⟩⟩⟩⟩,⟨Tryz.func27,⟨Tryz.func43,⟨Tryz.func75,⟨Tryz.func139,trivial,trivial⟩,⟨Tryz.func203,trivial,trivial⟩⟩,⟨Tryz.func107,⟨Tryz.func171,trivial,trivial⟩,⟨Tryz.func235,trivial,trivial⟩⟩⟩,⟨Tryz.func59,⟨Tryz.func91,⟨Tryz.func155,trivial,trivial⟩,⟨Tryz.func219,trivial,trivial⟩⟩,⟨Tryz.func123,⟨Tryz.func187,trivial,trivial⟩,⟨trivial,trivial,trivial⟩⟩⟩⟩⟩⟩,⟨Tryz.func5,⟨Tryz.func9,⟨Tryz.func17,⟨Tryz.func33,⟨Tryz.func65,⟨Tryz.func129,⟨trivial,trivial,trivial⟩,trivial⟩,⟨Tryz.func193,trivial,trivial⟩⟩,⟨Tryz.func97,⟨Tryz.func161,trivial,trivial⟩,⟨Tryz.func225,trivial,trivial⟩⟩⟩,⟨Tryz.func49,⟨Tryz.func81,⟨Tryz.func145,trivial,trivial⟩,⟨Tryz.func209,trivial,trivial⟩⟩,⟨Tryz.func113,⟨Tryz.func177,trivial,trivial⟩,⟨trivial,trivial,trivial⟩⟩⟩⟩,⟨Tryz.func25,⟨Tryz.func41,⟨Tryz.func73,⟨Tryz.func137,trivial,trivial⟩,⟨Tryz.func201,trivial,trivial⟩⟩,⟨Tryz.func105,⟨Tryz.func169,trivial,trivial⟩,⟨Tryz.func233,trivial,trivial⟩⟩⟩,⟨Tryz.func57,⟨Tryz.func89,⟨Tryz.func153,trivial,trivial⟩,⟨Tryz.func217,trivial,trivial⟩⟩,⟨Tryz.func121,⟨Tryz.func185,trivial,trivial⟩,⟨trivial,trivial,trivial⟩⟩⟩⟩⟩,⟨Tryz.func13,⟨Tryz.func21,⟨Tryz.func37,⟨Tryz.func69,⟨Tryz.func133,⟨Tryz.func261,trivial,trivial⟩,trivial⟩,⟨Tryz.func197,trivial,trivial⟩⟩,⟨Tryz.func101,⟨Tryz.func165,trivial,trivial⟩,⟨Tryz.func229,trivial,trivial⟩⟩⟩,⟨Tryz.func53,⟨Tryz.func85,⟨Tryz.func149,trivial,trivial⟩,⟨Tryz.func213,trivial,trivial⟩⟩,⟨Tryz.func117,⟨Tryz.func181,trivial,trivial⟩,⟨trivial,trivial,trivial⟩⟩⟩⟩,⟨Tryz.func29,⟨Tryz.func45,⟨Tryz.func77,⟨Tryz.func141,trivial,trivial⟩,⟨Tryz.func205,trivial,trivial⟩⟩,⟨Tryz.func109,⟨Tryz.func173,trivial,trivial⟩,⟨Tryz.func237,trivial,trivial⟩⟩⟩,⟨Tryz.func61,⟨Tryz.func93,⟨Tryz.func157,trivial,trivial⟩,⟨Tryz.func221,trivial,trivial⟩⟩,⟨Tryz.func125,⟨Tryz.func189,trivial,trivial⟩,⟨trivial,trivial,trivial⟩⟩⟩⟩⟩⟩⟩,⟨trivial,⟨Tryz.func4,⟨Tryz.func8,⟨Tryz.func16,⟨Tryz.func32,⟨Tryz.func64,⟨Tryz.func128,⟨trivial,trivial,trivial⟩,trivial⟩,⟨Tryz.func192,trivial,trivial⟩⟩,⟨Tryz.func96,⟨Tryz.func160,trivial,trivial⟩,⟨Tryz.func224,trivial,trivial⟩⟩⟩,⟨Tryz.func48,⟨Tryz.func80,⟨Tryz.func144,trivial,trivial⟩,⟨Tryz.func208,trivial,trivial⟩⟩,⟨Tryz.func112,⟨Tryz.func176,trivial,trivial⟩,⟨Tryz.func240,trivial,trivial⟩⟩⟩⟩,⟨Tryz.func24,⟨Tryz.func40,⟨Tryz.func72,⟨Tryz.func136,⟨Tryz.func264,trivial,trivial⟩,trivial⟩,⟨Tryz.func200,trivial,trivial⟩⟩,⟨Tryz.func104,⟨Tryz.func168,trivial,trivial⟩,⟨Tryz.func232,trivial,trivial⟩⟩⟩,⟨Tryz.func56,⟨Tryz.func88,⟨Tryz.func152,trivial,trivial⟩,⟨Tryz.func216,trivial,trivial⟩⟩,⟨Tryz.func120,⟨Tryz.func184,trivial,trivial⟩,⟨trivial,trivial,trivial⟩⟩⟩⟩⟩,⟨Tryz.func12,⟨Tryz.func20,⟨Tryz.func36,⟨Tryz.func68,⟨Tryz.func132,⟨Tryz.func260,trivial,trivial⟩,trivial⟩,⟨Tryz.func196,trivial,trivial⟩⟩,⟨Tryz.func100,⟨Tryz.func164,trivial,trivial⟩,⟨Tryz.func228,trivial,trivial⟩⟩⟩,⟨Tryz.func52,⟨Tryz.func84,⟨Tryz.func148,trivial,trivial⟩,⟨Tryz.func212,trivial,trivial⟩⟩,⟨Tryz.func116,⟨Tryz.func180,trivial,trivial⟩,⟨trivial,trivial,trivial⟩⟩⟩⟩,⟨Tryz.func28,⟨Tryz.func44,⟨Tryz.func76,⟨Tryz.func140,trivial,trivial⟩,⟨Tryz.func204,trivial,trivial⟩⟩,⟨Tryz.func108,⟨Tryz.func172,trivial,trivial⟩,⟨Tryz.func236,trivial,trivial⟩⟩⟩,⟨Tryz.func60,⟨Tryz.func92,⟨Tryz.func156,trivial,trivial⟩,⟨Tryz.func220,trivial,trivial⟩⟩,⟨Tryz.func124,⟨trivial,trivial,trivial⟩,⟨trivial,trivial,trivial⟩⟩⟩⟩⟩⟩,⟨Tryz.func6,⟨Tryz.func10,⟨Tryz.func18,⟨Tryz.func34,⟨Tryz.func66,⟨Tryz.func130,⟨Tryz.func258,trivial,trivial⟩,trivial⟩,⟨Tryz.func194,trivial,trivial⟩⟩,⟨Tryz.func98,⟨Tryz.func162,trivial,trivial⟩,⟨Tryz.func226,trivial,trivial⟩⟩⟩,⟨Tryz.func50,⟨Tryz.func82,⟨Tryz.func146,trivial,trivial⟩,⟨Tryz.func210,trivial,trivial⟩⟩,⟨Tryz.func114,⟨Tryz.func178,trivial,trivial⟩,⟨trivial,trivial,trivial⟩⟩⟩⟩,⟨Tryz.func26,⟨Tryz.func42,⟨Tryz.func74,⟨Tryz.func138,trivial,trivial⟩,⟨Tryz.func202,trivial,trivial⟩⟩,⟨Tryz.func106,⟨Tryz.func170,trivial,trivial⟩,⟨Tryz.func234,trivial,trivial⟩⟩⟩,⟨Tryz.func58,⟨Tryz.func90,⟨Tryz.func154,trivial,trivial⟩,⟨Tryz.func218,trivial,trivial⟩⟩,⟨Tryz.func122,⟨Tryz.func186,trivial,trivial⟩,⟨trivial,trivial,trivial⟩⟩⟩⟩⟩,⟨Tryz.func14,⟨Tryz.func22,⟨Tryz.func38,⟨Tryz.func70,⟨Tryz.func134,⟨Tryz.func262,trivial,trivial⟩,trivial⟩,⟨Tryz.func198,trivial,trivial⟩⟩,⟨Tryz.func102,⟨Tryz.func166,trivial,trivial⟩,⟨Tryz.func230,trivial,trivial⟩⟩⟩,⟨Tryz.func54,⟨Tryz.func86,⟨Tryz.func150,trivial,trivial⟩,⟨Tryz.func214,trivial,trivial⟩⟩,⟨Tryz.func118,⟨Tryz.func182,trivial,trivial⟩,⟨trivial,trivial,trivial⟩⟩⟩⟩,⟨Tryz.func30,⟨Tryz.func46,⟨Tryz.func78,⟨Tryz.func142,trivial,trivial⟩,⟨Tryz.func206,trivial,trivial⟩⟩,⟨Tryz.func110,⟨Tryz.func174,trivial,trivial⟩,⟨Tryz.func238,trivial,trivial⟩⟩⟩,⟨Tryz.func62,⟨Tryz.func94,⟨Tryz.func158,trivial,trivial⟩,⟨Tryz.func222,trivial,trivial⟩⟩,⟨Tryz.func126,⟨Tryz.func190,trivial,trivial⟩,⟨trivial,trivial,trivial⟩⟩⟩⟩⟩⟩⟩⟩
theorem map174:Tryz.prog.underlying 174=some (.map 3 172):=Tryz.underlying174
theorem tab_ok {X:Px} (hP:X.P=Tryz.prog) (hty:X.T.ty=tyT) (hfn:X.T.fn=fnT) (hinv:∀ t nm r,X.T.inv t nm=some r→invT t nm=some r) (hemp:∀ nm args,X.T.emp nm args=true→∀ E vs,RL E args vs→X.RP nm vs []) (hglz:∀ gg cs,X.T.gl gg=some cs→∀ E E' vs,RL E cs vs→RL E' cs vs)
  (heq:∀ t,X.T.eqt t=true→∀ y,X.T.ty.get t=some y→∀ E l m,shapeS y.zero l=true→shapeS y.zero m=true→∀ xs ys:Array Value,RL E l xs.toList→RL E m ys.toList →
   ∀ op,(op=.eql∨op=.neq)→∀ x y',∃ b,∀ w,(do eqGuard op t x y' (.agg xs) (.agg ys); binOp op t (.agg xs) (.agg ys):Sem Value).run X.P w=.ok (.bool b) w)
  (hik:X.T.ik=fun t=>Nat.beq t 174:=by rfl):TabOk X where
 ty:=fun t y h=>by
  rw [hty] at h
  rw [hP]
  have:=allT_ok tyT_all h
  rw [Nat.one_mul,Nat.add_zero] at this
  exact tyB_ok this
 fn:=fun g fn h=>by
  rw [hfn] at h
  rw [hP]
  have h1:=AllT_ok fnT_all h
  have h2:=allT_ok fnT_name h
  rw [Nat.one_mul,Nat.add_zero] at h1
  simp only [Bool.and_eq_true,Bool.not_eq_true'] at h2
  exact ⟨h1,h2.1,h2.2⟩
 mixed:=by rw [hP]; rfl
 inv:=fun t nm g h v w=>by
  rw [hP]
  exact meth_dir (invT_ok (hinv _ _ _ h)) v w
 invl:=fun t nm g e h v z w hl=>by
  rw [hP] at hl ⊢
  exact meth_load (invT_ok (hinv _ _ _ h)) hl
 emp:=hemp
 ik:=fun t h=>by
  rw [hik] at h
  have:t=174:=nbeq h
  subst this
  rw [hP]
  exact ⟨3,172,map174,Tryz.underlying3⟩
 glz:=hglz
 eqt:=heq
end SE
end
end Go.Proofs.YtdgejnakakjgfaaGreatDoor
