/- What is told of the functions; the tables of types. -/
import Derived.Test.YtfoeaeeaflmkfaaGreatCfT
import Derived.Test.YtfoeaeeaflmkfaaGreatCFQ
import Derived.Test.YtfoeaeeaflmkfaaGreatSX25
set_option linter.unusedSectionVars false
set_option linter.unusedVariables false
set_option linter.unusedSimpArgs false
namespace Go.Proofs.RepT
open Go Go.AL Go.AL.SX
set_option maxRecDepth 1000000
noncomputable section
def full (k:IntKind):Ty:=.int k (kMin k) (kMax k)
def Dl:List (Nat × Ty):=[(74,(.ifc [(71,(.ptr 118 false)),(75,(.ptr 127 false))] true)),
 (99,(.ifc [(180,(full .i64)),(309,(.agg [(.str maxLen),(full .i64),(.nm 99)]))] true)),
 (103,.any),
 (106,.any),
 (90011,(.ptr 90001 true)),
 (90012,(.ptr 90002 true))]
def Kl:List (Nat × CD):=[(25,(.obj [(full .i64),(full .i64),(.sl (.agg [(.str maxLen),(full .i64),(full .i64)]) 0 maxLen),(.sl (full .i64) 0 maxLen)])),
 (69,(.obj [(full .i64),(full .i64),(.ptr 110 false),(.ptr 113 false),(.ptr 116 false),(.own (.sl .any 0 maxLen) 1 70 0 maxLen),(.sl (.agg [(full .i64),(full .i64),(full .i64),.bool,(.str maxLen),(.str maxLen),(full .i64),(full .i64),(full .i64),(full .i64)]) 0 maxLen)])),
 (107,(.map (.one .str) (full .i64))),
 (110,(.obj [(.sl (.str maxLen) 0 maxLen),(.map 107 false)])),
 (111,(.map (.row [(.int .i64),(.int .i64)]) (.agg []))),
 (113,(.obj [(.map 111 false)])),
 (116,(.obj [(.sl (.agg [(full .i64),(full .i64),.bool,(.sl (full .u8) 0 maxLen)]) 0 maxLen)])),
 (118,(.obj [(.ptr 110 false),(.ptr 113 false),(full .i64),(.ptr 184 false),(.con (.slice [] true none)),(.con (.slice [] true none))])),
 (127,(.obj [(.ptr 110 false),(.ptr 113 false),(full .i64),(full .i64),(.ptr 189 false),(.ptr 191 false),(.own (.agg [(.str maxLen),(.str maxLen),(full .i64),.bool,(full .i64)]) 5 129 0 32),(.con (.slice [] true none)),(.con (.slice [] true none))])),
 (134,(.map (.one (.int .i64)) (.map 340 false))),
 (135,(.map (.one (.int .i64)) (.agg [(full .i64),(full .i64),(full .i64),(full .i64),(full .i64),(full .i64),(.sl (full .u8) 0 maxLen),(full .i64),(full .i64),(.sl (full .i64) 0 maxLen),(.sl (.agg [(full .i64),(full .i64),(full .i64),(full .i64),(full .i64),(.sl (full .i64) 0 maxLen)]) 0 maxLen),(.sl (.sl (full .u8) 0 maxLen) 0 maxLen)]))),
 (141,(.obj [(.ptr 110 false),(.ptr 113 false),(full .i64),(full .i64),(full .i64),(.nm 74),(.ptr 196 false),(.con (.bool true)),(.con (.int .i64 0)),(.con (.slice [] true none)),(.con (.slice [] true none)),(.con (.slice [] true none)),(full .i64),(full .i64),(full .i64),(full .i64),(full .i64),(full .i64),(.sl (full .i64) 0 maxLen),(.sl (full .u8) 0 maxLen),(.con (.slice [] true none)),(.map 134 false),(.map 135 false),(full .i64),(.con (.slice [] true none))])),
 (184,(.obj [(.sl (.agg [(.str maxLen),(full .i64),(full .i64)]) 1 32)])),
 (189,(.obj [(.con (.slice [] true none))])),
 (191,(.obj [(.map 107 false)])),
 (192,(.map (.one (.int .i64)) (full .i64))),
 (193,(.map (.row [(.int .i64),(.int .i64),(.int .i64)]) (full .i64))),
 (194,(.map (.one (.int .i64)) (.agg [(full .i64),(full .i64),(full .i64),(full .i64),(full .i64),(.sl (full .i64) 0 maxLen)]))),
 (196,(.obj [(full .i64),(full .i64),(.map 192 false),(.map 192 false),(.map 193 false),(.map 194 false)])),
 (340,(.map (.one (.int .i64)) (full .i64))),
 (90001,(.obj [.ptr 141 false,.ifc [(71,.ptr 118 false)] false,full .i64])),
 (90002,(.obj [.ptr 141 false,.ifc [(75,.ptr 127 false)] false,full .i64]))]
def El:List (Nat × Ty):=[(48,(.agg [(full .i64),(full .i64),.bool,(.str maxLen),(.str maxLen),(full .i64),(full .i64),(full .i64),(full .i64)])),
 (70,(.sl .any 0 maxLen)),
 (77,(.ptr 90001 true)),
 (91,(.agg [(.str maxLen),(full .i64),(full .i64)])),
 (129,(.agg [(.str maxLen),(.str maxLen),(full .i64),.bool,(full .i64)])),
 (144,(.agg [(full .i64),(full .i64)])),
 (148,(.agg [(full .i64),(full .i64),(.sl (.str maxLen) 0 maxLen),(.sl (full .i64) 0 maxLen),(.sl (full .i64) 0 maxLen),(.sl (full .i64) 0 maxLen),(full .i64),(full .i64),(.sl (.agg [(.str maxLen),(full .i64)]) 0 maxLen),(.sl (.agg [(.str maxLen),(.str maxLen)]) 0 maxLen)]))]
def lookN {α:Type} (d:α):List (Nat × α)→Nat→α
 | [],_=>d
 |(k,a)::l,n=>bif Nat.beq k n then a else lookN d l n
def TB:Tab:=mkTab (lookN .any Dl) (lookN .none Kl) (lookN .any El)
def k92:Con:=⟨[(.sl (.agg [(.str maxLen),(full .i64),(full .i64)]) 1 32)],[],[([(.own (.agg [(.str maxLen),(full .i64),(full .i64)]) 3 91 0 4398046511104)],[⟨0,[((-1),.l 0),(1,.l 100)]⟩,⟨0,[((-1),.l 100),(1,.l 0)]⟩],[])],[],[],[],[]⟩
def n92:An:=⟨[]⟩
def l92:List LA:=[]
def k47:Con:=⟨[(.sl (.agg [(.str maxLen),(full .i64),(full .i64)]) 0 maxLen)],[],[([(.ptr 184 false),(.con .nilI)],[⟨32,[((-1),.l 0)]⟩],[(106,[0])]),([(.con .nilP),(.ifc [(180,(full .i64)),(309,(.agg [(.str maxLen),(full .i64),(.nm 99)]))] false)],[],[(107,[0])])],[],[],[],[]⟩
def n47:An:=⟨[(64,184)]⟩
def l47:List LA:=[⟨0,[(2,(.con .nilP)),(3,(.con .nilI)),(24,(.int .i64 0 255))],[],[],[(999999,[])],⟨0,[((-1),.i 24),(1,.l 0)]⟩,[⟨0,[(1,.i 24)]⟩],[(104,[0,24]),(110,[24,4])],[]⟩]
def k138:Con:=⟨[(full .u32)],[],[([(.int .i64 0 279)],[],[])],[],[],[],[]⟩
def n138:An:=⟨[]⟩
def l138:List LA:=[]
def k139:Con:=⟨[(full .u64)],[],[([(.int .i64 0 311)],[],[])],[],[],[],[]⟩
def n139:An:=⟨[]⟩
def l139:List LA:=[]
def k94:Con:=⟨[(full .u64)],[],[([(.int .i64 0 311)],[],[])],[],[],[],[]⟩
def n94:An:=⟨[]⟩
def l94:List LA:=[]
def k140:Con:=⟨[(full .u32)],[],[([(.int .i64 0 255)],[],[])],[],[],[],[]⟩
def n140:An:=⟨[]⟩
def l140:List LA:=[]
def k141:Con:=⟨[(full .u64)],[],[([(.int .i64 0 127)],[],[])],[],[],[],[]⟩
def n141:An:=⟨[]⟩
def l141:List LA:=[]
def k95:Con:=⟨[(full .u64)],[],[([(.int .i64 0 127)],[],[])],[],[],[],[]⟩
def n95:An:=⟨[]⟩
def l95:List LA:=[]
def k52:Con:=⟨[(full .i64),(full .i64)],[],[([.bool],[],[])],[],[],[],[]⟩
def n52:An:=⟨[]⟩
def l52:List LA:=[]
def k50:Con:=⟨[(.sl (full .i64) 0 4),(.fn [(51,[],[(.ptr 25 false)])] false)],[],[([(.con (.bool true))],[],[]),([(.con (.bool false))],[],[])],[],[],[],[]⟩
def n50:An:=⟨[]⟩
def l50:List LA:=[]
def k58:Con:=⟨[(.con (.slice [] true none))],[],[([(.con (.slice [] true none))],[],[])],[],[],[],[]⟩
def n58:An:=⟨[]⟩
def l58:List LA:=[]
def k59:Con:=⟨[(.con (.slice [] true none))],[],[([(.con (.slice [] true none))],[],[])],[],[],[],[]⟩
def n59:An:=⟨[]⟩
def l59:List LA:=[]
def k60:Con:=⟨[(.con (.slice [] true none))],[],[([(.con (.slice [] true none))],[],[])],[],[],[],[]⟩
def n60:An:=⟨[]⟩
def l60:List LA:=[]
def k63:Con:=⟨[(.sl (.agg [(.str maxLen),(.str maxLen),(full .i64),.bool,(full .i64)]) 0 32)],[],[([(.own (.agg [(.str maxLen),(.str maxLen),(full .i64),.bool,(full .i64)]) 5 129 0 2513169434916)],[⟨0,[((-1),.l 100),(1,.l 0)]⟩],[])],[],[],[],[]⟩
def n63:An:=⟨[]⟩
def l63:List LA:=[]
def k3:Con:=⟨[(.agg [(full .i64),(full .i64),(.sl (.agg [(.str maxLen),(full .i64),(full .i64)]) 0 maxLen),(.sl (full .i64) 0 maxLen)])],[],[([(.con (.bool true))],[],[])],[],[],[],[]⟩
def n3:An:=⟨[]⟩
def l3:List LA:=[⟨8,[],[],[],[],⟨0,[]⟩,[],[],[]⟩,⟨0,[(2,.bool),(6,(.int .i64 (-1) 255))],[],[],[(999999,[])],⟨6,[((-1),.i 6)]⟩,[⟨1,[(1,.i 6)]⟩],[],[]⟩]
def Fl:List (Nat × FS):=[(4,.con ⟨[],[],[([.con (.bool true)],[],[])],[],[],[],[]⟩),
 (62,.con ⟨[(.ptr 189 false),(.str maxLen),(.str maxLen)],[],[([.con (.slice [] true none)],[],[])],[],[],[],[]⟩),
 (128,.code ⟨[]⟩ [] c128),
 (131,.code ⟨[]⟩ [] c131),
 (89,.code ⟨[]⟩ [] c89),
 (49,.code ⟨[]⟩ [] c49),
 (91,.code ⟨[]⟩ [] c91),
 (90,.code ⟨[]⟩ [⟨0,[(4,(.int .i64 0 0)),(8,(.int .i64 0 maxLen))],[],[],[(999999,[])],⟨0,[((-1),.i 8),(1,.l 0)]⟩,[⟨0,[(1,.i 4)]⟩,⟨0,[(1,.i 8)]⟩],[(108,[0,8,1])],[]⟩] c90),
 (92,.con k92),
 (47,.con k47),
 (48,.code ⟨[]⟩ [] c48),
 (138,.con k138),
 (139,.con k139),
 (94,.con k94),
 (140,.con k140),
 (141,.con k141),
 (95,.con k95),
 (52,.con k52),
 (51,.code ⟨[]⟩ [] c51),
 (93,.code ⟨[]⟩ [⟨0,[(4,(.int .i64 0 0)),(8,(.int .i64 0 maxLen))],[],[],[(999999,[])],⟨0,[((-1),.i 8),(1,.l 0)]⟩,[⟨0,[(1,.i 4)]⟩,⟨0,[(1,.i 8)]⟩],[],[]⟩] c93),
 (50,.con k50),
 (13,.code ⟨[(1,25)]⟩ [] c13),
 (14,.code ⟨[(1,107),(3,110)]⟩ [] c14),
 (15,.code ⟨[(1,111),(3,113)]⟩ [] c15),
 (16,.code ⟨[(2,116)]⟩ [] c16),
 (17,.code ⟨[]⟩ [] c17),
 (18,.code ⟨[(39,118)]⟩ [] c18),
 (53,.code ⟨[(2,189)]⟩ [] c53),
 (54,.code ⟨[(1,107),(3,191)]⟩ [] c54),
 (19,.code ⟨[(54,127)]⟩ [⟨0,[(57,(.int .i64 0 255))],[],[(13,[6])],[(999999,[6])],⟨0,[((-1),.i 57),(1,.l 4)]⟩,[⟨0,[(1,.i 57),((-1),.l 100000)]⟩,⟨0,[(1,.i 57)]⟩],[],[]⟩] c19),
 (55,.code ⟨[(1,192),(2,192),(3,193),(4,194),(6,196)]⟩ [] c55),
 (20,.code ⟨[(57,134),(58,135),(60,141)]⟩ [] c20),
 (5,.code ⟨[(20,69),(105,90001),(105,90002),(107,90011),(107,90012),(49,90011),(49,90012)]⟩ [⟨5,[],[],[],[],⟨0,[]⟩,[],[],[]⟩,⟨0,[(6,(.own (.ptr 90001 true) 1 77 0 17592186044416)),(39,(.int .i64 0 4))],[],[],[(999999,[6])],⟨0,[(1,.i 38),((-1),.i 39)]⟩,[⟨0,[(1,.i 39)]⟩,⟨0,[(1,.l 6),((-1),.i 39)]⟩,⟨0,[(1,.i 39),((-1),.l 6)]⟩],[(100,[6,5])],[[(6,(.own (.ptr 90002 true) 1 77 0 17592186044416)),(39,(.int .i64 0 4))]]⟩] c5),
 (56,.code ⟨[]⟩ [] c56),
 (21,.code ⟨[]⟩ [] c21),
 (57,.code ⟨[]⟩ [] c57),
 (22,.code ⟨[]⟩ [] c22),
 (23,.code ⟨[]⟩ [] c23),
 (24,.code ⟨[]⟩ [] c24),
 (25,.code ⟨[]⟩ [] c25),
 (26,.code ⟨[]⟩ [] c26),
 (58,.con k58),
 (27,.code ⟨[]⟩ [] c27),
 (59,.con k59),
 (28,.code ⟨[]⟩ [] c28),
 (60,.con k60),
 (29,.code ⟨[]⟩ [] c29),
 (61,.code ⟨[]⟩ [] c61),
 (30,.code ⟨[]⟩ [] c30),
 (31,.code ⟨[]⟩ [] c31),
 (32,.code ⟨[]⟩ [] c32),
 (33,.code ⟨[]⟩ [] c33),
 (63,.con k63),
 (34,.code ⟨[]⟩ [] c34),
 (6,.code ⟨[]⟩ [] c6)]
def Rl:List (Nat × Nat):=[(4,0),(128,2),(131,3),(89,4),(49,5),(91,6),(90,7),(92,8),(47,9),(48,10),(138,11),(139,12),(94,13),(140,14),(141,15),(95,16),(52,17),(51,18),(93,19),(50,20),(13,21),(14,22),(15,23),(16,24),(17,25),(18,26),(53,27),(54,28),(19,29),(55,30),(20,31),(5,32),(56,33),(21,34),(57,35),(22,36),(23,37),(24,38),(25,39),(26,40),(58,41),(27,42),(59,43),(28,44),(60,45),(29,46),(61,47),(30,48),(31,49),(32,50),(62,0),(33,52),(63,53),(34,54),(6,55),(3,56)]
def FF:FSs:=lookN .none Fl
def rank:Nat→Nat:=lookN 0 Rl
def deepN:Nat:=24
end
end Go.Proofs.RepT
